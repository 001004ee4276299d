/- The executor is sound, 6: slices: make, slice expressions, indexes, len, append. -/
import Derived.Test.YtpcbjkjgjoemaaaGreatDoorB2
import Derived.Lib.ConvBytes
import Derived.MapKept
import Derived.Laws.BytesString
namespace Go.Ab

def flat (vs : List Value) : List Value := vs.flatMap fun v => v.cells.toList

theorem flat_length {sz : Nat} : ∀ {vs : List Value}, (∀ v ∈ vs, v.cells.size = sz) → (flat vs).length = vs.length * sz
  | [], _ => by simp [flat]
  | v :: r, h => by
    have ih := flat_length (vs := r) fun x hx => h x (List.mem_cons_of_mem _ hx)
    have hv := h v (List.mem_cons_self ..)
    simp only [flat] at ih
    simp only [flat, List.flatMap_cons, List.length_append, ih, List.length_cons, Array.length_toList, hv, Nat.add_mul, Nat.one_mul]
    omega

theorem flat_get {sz : Nat} : ∀ {vs : List Value}, (∀ v ∈ vs, v.cells.size = sz) → ∀ {i : Nat} {v : Value}, vs[i]? = some v → ∀ {j : Nat}, j < sz → (flat vs)[i * sz + j]? = v.cells[j]?
  | [], _, i, v, h, _, _ => by simp at h
  | u :: r, h, i, v, hi, j, hj => by
    have hu := h u (List.mem_cons_self ..)
    simp only [flat, List.flatMap_cons]
    cases i with
    | zero =>
      simp only [List.getElem?_cons_zero, Option.some.injEq] at hi
      subst hi
      rw [Nat.zero_mul, Nat.zero_add, List.getElem?_append_left (by simp; omega)]
      simp
    | succ i =>
      have ih := flat_get (vs := r) (fun x hx => h x (List.mem_cons_of_mem _ hx)) (i := i) (v := v) (by simpa using hi) hj
      rw [List.getElem?_append_right (by simp [hu, Nat.add_mul]; omega)]
      rw [← ih]
      simp only [flat, Array.length_toList, hu]
      congr 1
      rw [Nat.add_mul]; omega

theorem R.listOpen {g : G} {n sz : Nat} {get : Nat → D} {own : Own} {v : Value} (h : R g (.list n sz get own) v) : ∃ (a : Option Addr) (cap : Nat) (vs : List Value), v = .slice a n cap ∧ n ≤ cap ∧ n ≤ lenM ∧ vs.length = n ∧
    (∀ i u, vs[i]? = some u → R g (get i) u ∧ u.cells.size = sz) ∧ (∀ u ∈ vs, u.cells.size = sz) ∧
    (0 < n → ∃ p, a = some p ∧ p.spot = none ∧ ∀ (i : Nat) (u : Value), vs[i]? = some u → ∀ j, j < sz → g.σ ⟨p.block, p.off + i * sz + j, none⟩ = u.cells[j]?) ∧
    OwnOk g own n a cap ∧ ∀ i, i < n → ones (get i) = true := by
  simp only [R] at h
  obtain ⟨h1, a, cap, h2, h3, h4, h5⟩ := h
  have hx : ∀ i, ∃ u : Value, i < n → R g (get i) u ∧ u.cells.size = sz ∧ ∀ p, a = some p → p.spot = none ∧ ∀ j, j < sz → g.σ ⟨p.block, p.off + i * sz + j, none⟩ = u.cells[j]? := by
    intro i
    by_cases hi : i < n
    · obtain ⟨p, u, e1, e2, e3, e4, e5⟩ := h5 i hi
      exact ⟨u, fun _ => ⟨e3, e4.1, fun p' hp' => by rw [e1] at hp'; cases hp'; exact ⟨e2, e5⟩⟩⟩
    · exact ⟨undef, fun h => absurd h hi⟩
  let f : Nat → Value := fun i => Classical.choose (hx i)
  have hf : ∀ i, i < n → R g (get i) (f i) ∧ (f i).cells.size = sz ∧ ∀ p, a = some p → p.spot = none ∧ ∀ j, j < sz → g.σ ⟨p.block, p.off + i * sz + j, none⟩ = (f i).cells[j]? := fun i => Classical.choose_spec (hx i)
  have hget : ∀ i u, ((List.range n).map f)[i]? = some u → i < n ∧ u = f i := by
    intro i u hu
    rw [List.getElem?_map] at hu
    by_cases hi : i < n
    · rw [List.getElem?_range hi] at hu; simp at hu; exact ⟨hi, hu.symm⟩
    · rw [List.getElem?_eq_none (by simpa using hi)] at hu; cases hu
  refine ⟨a, cap, (List.range n).map f, h2, h3, h1, by simp, fun i u hu => ?_, fun u hu => ?_, fun hn => ?_, h4, fun i hi => by obtain ⟨_, _, _, _, _, e4, _⟩ := h5 i hi; exact e4.2⟩
  · obtain ⟨hi, rfl⟩ := hget i u hu
    exact ⟨(hf i hi).1, (hf i hi).2.1⟩
  · obtain ⟨i, hi, rfl⟩ := List.mem_map.1 hu
    exact (hf i (by simpa using hi)).2.1
  · obtain ⟨p, u, e1, e2, _⟩ := h5 0 hn
    refine ⟨p, e1, e2, fun i u hu j hj => ?_⟩
    obtain ⟨hi, rfl⟩ := hget i u hu
    exact ((hf i hi).2.2 p e1).2 j hj

/-- The cells of a slice's elements, one by one, in a world. -/
theorem cells_flat {g : G} {w : World} (sub : ∀ a v, g.σ a = some v → w.cell? a = some v ∧ a.spot = none) {sz : Nat} {vs : List Value} (hsz : ∀ u ∈ vs, u.cells.size = sz) {p : Addr} (hp : p.spot = none)
    (hc : ∀ (i : Nat) (u : Value), vs[i]? = some u → ∀ j, j < sz → g.σ ⟨p.block, p.off + i * sz + j, none⟩ = u.cells[j]?) : ∀ k v, (flat vs)[k]? = some v → w.cell? (p.add k) = some v := by
  intro k v hv
  have hlen := flat_length hsz
  have hk : k < vs.length * sz := by
    rcases Nat.lt_or_ge k (flat vs).length with h | h
    · rw [← hlen]; exact h
    · rw [List.getElem?_eq_none h] at hv; cases hv
  have hsp : 0 < sz := by rcases Nat.eq_zero_or_pos sz with h | h; · subst h; simp at hk
                          · exact h
  have hi : k / sz < vs.length := Nat.div_lt_of_lt_mul (by rw [Nat.mul_comm]; exact hk)
  have hj : k % sz < sz := Nat.mod_lt _ hsp
  have he : k / sz * sz + k % sz = k := Nat.div_add_mod' k sz
  have h1 := flat_get hsz (List.getElem?_eq_getElem hi) hj
  rw [he, hv] at h1
  have h2 := hc _ _ (List.getElem?_eq_getElem hi) _ hj
  rw [← h1] at h2
  have h3 := (sub _ _ h2).1
  have : p.add k = ⟨p.block, p.off + k / sz * sz + k % sz, none⟩ := by
    have hp' : p = ⟨p.block, p.off, none⟩ := by cases p; simp_all
    rw [hp', add_none]; simp only; rw [Nat.add_assoc, he]
  rw [this]; exact h3

section
variable {P : Program} {n : Nat} {g : G} {β : Nat → Nat} {U : Nat → Prop} {y : Nat → Bool → Prop} {st : St} {a : Act} {w : World} {ev : Operand → D} {o : Oper}

theorem dataOf (e : Ev g β st.sl a ev) {x : Operand} : ∀ d, ev x = d → isD d = true → R g d (a.eval x) := fun d h1 h2 => by rw [← h1]; exact e.data (by rw [h1]; exact h2)

theorem indexAddr_ok [Lay] (r : Rel n g β U y st a w) (e : Ev g β st.sl a ev) {t : Nat} {x i : Operand} (ho : o.op = .indexAddr t x i) : ResOk P n g β U y st a w o (indexAddrD P st.h t (ev x) (ev i)) := by
  unfold indexAddrD
  split
  · rename_i el tt m z k q hu hx hi
    have h1 := dataOf e _ hx rfl
    have h2 := dataOf e _ hi rfl
    simp only [R] at h1 h2
    split
    · rename_i sz f hz hv
      cases hb : Nat.beq z sz with
      | false => trivial
      | true =>
        have := beq_eq.1 hb; subst this
        simp only [cond_true]
        refine resNd r rfl fun hp => ?_
        obtain ⟨h3, ba, cap, h4, h5, kk, h6, h7, h8, h9⟩ := h1
        obtain ⟨k', e1, e2, e3⟩ := r.inv.tok tt m hp.1
        rw [h6] at e1; cases e1
        obtain ⟨h10, h11⟩ := h9 e2.symm
        have hcap : 0 < kk.cap := by omega
        rw [hv] at e3
        obtain ⟨b, c1, _⟩ := e3 hcap
        rw [c1] at h10
        subst h10
        refine ⟨.pointer (some ⟨b, q.toNat * z, none⟩), ?_, ?_⟩
        · simp only [execOp, ho, Instr.indexAt, h2, h4, asIntOf, Sem.run_bind, Sem.run_pure, Result.andThen_ok, run_underlying hu]
          rw [if_pos hp.2]
          simp [szOf_sound hz, add_none]
        · simp only [R]
          exact ⟨b, _, rfl, by omega, kk, h6, h7, h8, fun _ => ⟨c1, by omega, hcap⟩⟩
    · trivial
  · rename_i el m z f own k q hu hx hi
    have h1 := dataOf e _ hx rfl
    have h2 := dataOf e _ hi rfl
    simp only [R] at h2
    split
    · rename_i sz hz
      cases hb : Nat.beq z sz with
      | false => trivial
      | true =>
        have := beq_eq.1 hb; subst this
        simp only [cond_true]
        refine resNd r rfl fun hp => ?_
        obtain ⟨base, cap, vs, h3, h4, h5, h6, h7, h8, h9, _⟩ := h1.listOpen
        have hq : q.toNat < m := by omega
        obtain ⟨p, hp1, hp2, hp3⟩ := h9 (by omega)
        subst hp1
        have hv := List.getElem?_eq_getElem (l := vs) (i := q.toNat) (by omega)
        obtain ⟨hr, hs⟩ := h7 _ _ hv
        refine ⟨.pointer (some (p.add (q.toNat * z))), ?_, ?_⟩
        · simp only [execOp, ho, Instr.indexAt, h2, h3, asIntOf, Sem.run_bind, Sem.run_pure, Result.andThen_ok, run_underlying hu]
          rw [if_pos hp]
          simp [szOf_sound hz]
        · simp only [R]
          have hpe : p = ⟨p.block, p.off, none⟩ := by cases p; simp_all
          refine ⟨p.add (q.toNat * z), _, rfl, by rw [hpe, add_none], hr.cells, fun j hj => ?_⟩
          have hj' : j < z := by simpa [hs] using hj
          rw [hpe, add_none]
          simp only
          rw [hp3 _ _ hv j hj']
          simp
    · trivial
  · rename_i el b off m k q hu hx hi
    have h1 := dataOf e _ hx rfl
    have h2 := dataOf e _ hi rfl
    simp only [R] at h1 h2
    split
    · rename_i sz hz
      refine resNd r rfl fun hp => ?_
      obtain ⟨c, h3, ba, cap, h4, h5, h6, h7⟩ := h1
      have hba := h7 (by omega)
      refine ⟨.pointer (some ⟨c, off + q.toNat * sz, none⟩), ?_, by simp only [R]; exact ⟨c, h3, rfl⟩⟩
      simp only [execOp, ho, Instr.indexAt, h2, h4, hba, asIntOf, Sem.run_bind, Sem.run_pure, Result.andThen_ok, run_underlying hu]
      rw [if_pos hp]
      simp [szOf_sound hz, add_none]
    · trivial
  · trivial

theorem sliceBound_ok {k : IntKind} {q : Int} {m : Nat} {c : BoundsCode} (h : 0 ≤ q ∧ q ≤ m) : (Instr.sliceBound (.int k q) m c).run P w = .ok q.toNat w := by
  simp only [Instr.sliceBound, asIntOf, Sem.run_bind, Sem.run_pure, Result.andThen_ok]
  rw [if_pos h]; rfl

/-- A part of a slice reads as the part of its elements. -/
theorem R.part {g : G} {m z : Nat} {f : Nat → D} {own own' : Own} {v : Value} (h : R g (.list m z f own) v) {l k : Nat} (hl : l + k ≤ m) {p' : Option Addr} {cap' : Nat}
    (hp : ∀ p, 0 < m → (∃ cap, v = .slice (some p) m cap) → p.spot = none → 0 < k → p' = some (p.add (l * z))) (hk : k ≤ cap') (ho : OwnOk g own' k p' cap') : R g (.list k z (dropG f l) own') (.slice p' k cap') := by
  obtain ⟨base, cap, vs, h1, h2, h3, h4, h5, h6, h7, _, h8⟩ := h.listOpen
  simp only [R]
  refine ⟨by omega, p', cap', rfl, hk, ho, fun i hi => ?_⟩
  obtain ⟨p, e1, e2, e3⟩ := h7 (by omega)
  have hv := List.getElem?_eq_getElem (l := vs) (i := l + i) (by omega)
  obtain ⟨hr, hs⟩ := h5 _ _ hv
  have hpe : p = ⟨p.block, p.off, none⟩ := by cases p; simp_all
  refine ⟨p.add (l * z), _, hp p (by omega) ⟨cap, by rw [h1, e1]⟩ e2 (by omega), by rw [hpe, add_none], hr, ⟨hs, h8 (l + i) (by omega)⟩, fun j hj => ?_⟩
  rw [hpe, add_none]
  simp only
  rw [← e3 _ _ hv j hj, Nat.add_mul]
  congr 2
  omega

theorem run_slice {t : Nat} {x : Operand} {lo hi mx : Option Operand} (ho : o.op = .slice t x lo hi mx) {d : TypeDesc} (hu : P.underlying t = some d) (hd : ∀ n e, d ≠ .array n e) {v : Value}
    (hr : (Instr.slice t (a.eval x) (lo.map a.eval) (hi.map a.eval) (mx.map a.eval)).run P w = .ok v w) : (execOp a.eval o).run P w = .ok (.value v) w := by
  simp only [execOp, ho, Instr.sliceAt, Sem.run_bind, run_underlying hu, Result.andThen_ok]
  cases d <;> first
    | exact absurd rfl (hd _ _)
    | (simp only [hr, Result.andThen_ok, Sem.run_pure])

/-- An optional bound. -/
def HiIs (ev : Operand → D) (hi : Option Operand) (h dflt : Nat) : Prop := (hi = none → h = dflt) ∧ ∀ x, hi = some x → ∃ k, ev x = .int k h

/-- The bounds of a slice expression, evaluated. -/
theorem bounds_ok (e : Ev g β st.sl a ev) {isS : Bool} {len cap : Nat} {lo hi mx : Option Operand} {l h m : Nat} {lz : Int} (hl : lowD (lo.map ev) = some lz) (hle : lz = l)
    (hh : HiIs ev hi h len) (hm : HiIs ev mx m cap) (hne : mx ≠ none → hi ≠ none) (b1 : l ≤ h) (b2 : h ≤ m) (b3 : m ≤ cap) :
    (Instr.sliceBounds isS len cap (lo.map a.eval) (hi.map a.eval) (mx.map a.eval)).run P w = .ok (l, h, m) w := by
  have conv : ∀ x k (q : Nat), ev x = .int k q → a.eval x = .int k q := fun x k q hx => by have := dataOf e _ hx rfl; simpa only [R] using this
  have lowc : ∀ x, lo = some x → ∃ k, a.eval x = .int k l := by
    intro x hx
    subst hx
    simp only [Option.map_some] at hl
    cases hev : ev x with
    | int k q =>
      rw [hev] at hl
      simp only [lowD, Option.some.injEq] at hl
      subst hl; subst hle
      exact ⟨k, conv x k l hev⟩
    | _ => rw [hev] at hl; cases hl
  have low0 : lo = none → l = 0 := by
    intro hx; subst hx
    simp only [Option.map_none, lowD, Option.some.injEq] at hl
    omega
  unfold Instr.sliceBounds
  cases mx with
  | none =>
    have hm := hm.1 rfl; subst hm
    cases hi with
    | none =>
      have hh := hh.1 rfl; subst hh
      cases lo with
      | none => have := low0 rfl; subst this; simp
      | some x =>
        obtain ⟨k, hk⟩ := lowc x rfl
        have h1 := sliceBound_ok (P := P) (w := w) (k := k) (q := (l : Int)) (m := h) (c := .sliceB) (by omega)
        simp [hk, h1]
    | some z =>
      obtain ⟨k2, hz⟩ := hh.2 z rfl
      have hz' := conv z k2 h hz
      have h2 := sliceBound_ok (P := P) (w := w) (k := k2) (q := (h : Int)) (m := m) (c := if isS then .sliceAcap else .sliceAlen) (by omega)
      cases lo with
      | none => have := low0 rfl; subst this; cases isS <;> simp_all
      | some x =>
        obtain ⟨k, hk⟩ := lowc x rfl
        have h1 := sliceBound_ok (P := P) (w := w) (k := k) (q := (l : Int)) (m := h) (c := .sliceB) (by omega)
        cases isS <;> simp_all
  | some u =>
    obtain ⟨k3, hu⟩ := hm.2 u rfl
    have hne := hne (by simp)
    have hu' := conv u k3 m hu
    have h3 := sliceBound_ok (P := P) (w := w) (k := k3) (q := (m : Int)) (m := cap) (c := if isS then .slice3Acap else .slice3Alen) (by omega)
    cases hi with
    | none => exact absurd rfl hne
    | some z =>
      obtain ⟨k2, hz⟩ := hh.2 z rfl
      have hz' := conv z k2 h hz
      have h2 := sliceBound_ok (P := P) (w := w) (k := k2) (q := (h : Int)) (m := m) (c := .slice3B) (by omega)
      cases lo with
      | none => have := low0 rfl; subst this; cases isS <;> simp_all
      | some x =>
        obtain ⟨k, hk⟩ := lowc x rfl
        have h1 := sliceBound_ok (P := P) (w := w) (k := k) (q := (l : Int)) (m := h) (c := .slice3C) (by omega)
        cases isS <;> simp_all

theorem slice_list [Lay] (r : Rel n g β U y st a w) (e : Ev g β st.sl a ev) {t el : Nat} {x : Operand} {lo hi mx : Option Operand} (ho : o.op = .slice t x lo hi mx) (hu : P.underlying t = some (.slice el)) {m z sz : Nat} {f : Nat → D} {own own' : Own}
    (hx : ev x = .list m z f own) (hz : szOf P el = some sz) (hzz : 0 < m → z = sz) {l h : Nat} {lz : Int} (hl : lowD (lo.map ev) = some lz) (hle : lz = l) (hh : HiIs ev hi h m)
    (hmx : (mx = none ∧ own' = .none) ∨ (∃ u k, mx = some u ∧ ev u = .int k h ∧ hi ≠ none ∧ own' = .full)) (b1 : l ≤ h) (b2 : h ≤ m) :
    ∃ v, (execOp a.eval o).run P w = .ok (.value v) w ∧ R g (.list (h - l) z (dropG f l) own') v := by
  have h1 := dataOf e _ hx rfl
  obtain ⟨base, cap, vs, h2, h3, _⟩ := h1.listOpen
  have hbnd : ∃ mm, h ≤ mm ∧ mm ≤ cap ∧ (Instr.sliceBounds true m cap (lo.map a.eval) (hi.map a.eval) (mx.map a.eval)).run P w = .ok (l, h, mm) w ∧ OwnOk g own' (h - l) (if mm = l then base else base.map (·.add (l * sz))) (mm - l) := by
    rcases hmx with ⟨rfl, rfl⟩ | ⟨u, k, rfl, hk, hne, rfl⟩
    · exact ⟨cap, by omega, Nat.le_refl _, bounds_ok e hl hle hh ⟨fun _ => rfl, fun x hx => by cases hx⟩ (fun h => absurd rfl h) b1 (by omega) (Nat.le_refl _), trivial⟩
    · exact ⟨h, Nat.le_refl _, by omega, bounds_ok e hl hle hh ⟨(fun hx => by cases hx), (fun x hx => by cases hx; exact ⟨k, hk⟩)⟩ (fun _ => hne) b1 (Nat.le_refl _) (by omega), rfl⟩
  obtain ⟨mm, b3, b4, hb, hown⟩ := hbnd
  refine ⟨.slice (if mm = l then base else base.map (·.add (l * sz))) (h - l) (mm - l), run_slice ho hu (by intro _ _ h; cases h) ?_, ?_⟩
  · rw [h2]
    simp only [Instr.slice, Sem.run_bind, run_underlying hu, Result.andThen_ok, hb, szOf_sound hz, Sem.run_pure]
  · refine R.part h1 (by omega) (fun p hm hv hp hk => ?_) (by omega) hown
    obtain ⟨c, hc⟩ := hv
    rw [h2] at hc
    cases hc
    rw [if_neg (by omega), hzz hm]; rfl

theorem slice_ok [Lay] (r : Rel n g β U y st a w) (e : Ev g β st.sl a ev) {t : Nat} {x : Operand} {lo hi mx : Option Operand} (ho : o.op = .slice t x lo hi mx) :
    ResOk P n g β U y st a w o (sliceD P t (ev x) (lo.map ev) (hi.map ev) (mx.map ev)) := by
  have mapNone : ∀ {z : Option Operand}, z.map ev = none → z = none := fun h => by simpa using h
  have mapSome : ∀ {z : Option Operand} {d : D}, z.map ev = some d → ∃ q, z = some q ∧ ev q = d := fun h => by simpa using h
  unfold sliceD
  split
  · rename_i el m z f own l hu hx hl
    split
    · rename_i sz hz
      cases hb : (bif Nat.beq z sz then true else Nat.beq m 0) with
      | false => trivial
      | true =>
        have hzz : 0 < m → z = sz := fun hm => by
          cases hb1 : Nat.beq z sz with
          | true => exact beq_eq.1 hb1
          | false => rw [hb1] at hb; have := beq_eq.1 hb; omega
        simp only [cond_true]
        split
        · rename_i h1 h2 h3
          have e1 := mapNone h1; have e2 := mapNone h2; have e3 := mapNone h3
          subst e1; subst e2; subst e3
          have h4 := dataOf e _ hx rfl
          obtain ⟨base, cap, vs, h5, h6, _⟩ := h4.listOpen
          refine resVal r (v := a.eval x) (run_slice ho hu (by intro _ _ h; cases h) ?_) h4
          have hbnd := bounds_ok (P := P) (w := w) (len := m) (cap := cap) (isS := true) (lo := none) (hi := none) (mx := none) (l := 0) (h := m) (m := cap) e rfl rfl ⟨fun _ => rfl, fun _ h => by cases h⟩ ⟨fun _ => rfl, fun _ h => by cases h⟩ (fun h => absurd rfl h) (Nat.zero_le _) h6 (Nat.le_refl _)
          rw [h5]
          simp only [Option.map_none] at hbnd ⊢
          simp only [Instr.slice, Sem.run_bind, run_underlying hu, Result.andThen_ok, hbnd, szOf_sound hz, Sem.run_pure]
          simp [Addr.add]
        · rename_i d h1 h2 h3
          have e2 := mapNone h2; have e3 := mapNone h3
          subst e2; subst e3
          refine resNd r rfl fun hp => ?_
          have := slice_list (own' := .none) (l := l.toNat) (h := m) r e ho hu hx hz hzz hl (by omega) ⟨fun _ => rfl, fun _ h => by cases h⟩ (.inl ⟨rfl, rfl⟩) (by omega) (Nat.le_refl _)
          exact this
        · rename_i k h h2 h3
          have e3 := mapNone h3
          obtain ⟨q, e2, hq⟩ := mapSome h2
          subst e2; subst e3
          refine resNd r rfl fun hp => ?_
          exact slice_list (own' := .none) (l := l.toNat) (h := h.toNat) r e ho hu hx hz hzz hl (by omega) ⟨(fun h => by cases h), (fun y hy => by cases hy; exact ⟨k, by rw [hq]; congr 1; omega⟩)⟩ (.inl ⟨rfl, rfl⟩) (by omega) (by omega)
        · rename_i k h k' mm h2 h3
          obtain ⟨q, e2, hq⟩ := mapSome h2
          obtain ⟨q', e3, hq'⟩ := mapSome h3
          subst e2; subst e3
          refine resNd r rfl fun hp => ?_
          exact slice_list (own' := .full) (l := l.toNat) (h := h.toNat) r e ho hu hx hz hzz hl (by omega) ⟨(fun h => by cases h), (fun y hy => by cases hy; exact ⟨k, by rw [hq]; congr 1; omega⟩)⟩ (.inr ⟨q', k', rfl, by rw [hq']; congr 1; omega, by simp, rfl⟩) (by omega) (by omega)
        · trivial
    · trivial
  · rename_i el b off m l hu hx hl
    have h4 := dataOf e _ hx rfl
    simp only [R] at h4
    obtain ⟨c, h5, ba, cap, h6, h7, h8, h9⟩ := h4
    have key : ∀ {sz : Nat} {h : Nat}, szOf P el = some sz → 0 ≤ l → l.toNat ≤ h → h ≤ m → HiIs ev hi h m → mx = none → ∃ v, (execOp a.eval o).run P w = .ok (.value v) w ∧ R g (.sl b (off + l.toNat * sz) (h - l.toNat)) v := by
      intro sz h hz hl0 b1 b2 hh hmx
      subst hmx
      have hbnd := bounds_ok (P := P) (w := w) (len := m) (cap := cap) (isS := true) (lo := lo) (hi := hi) (mx := none) (l := l.toNat) (h := h) (m := cap) e hl (by omega) hh ⟨fun _ => rfl, fun _ h => by cases h⟩ (fun h => absurd rfl h) b1 (by omega) (Nat.le_refl _)
      refine ⟨.slice (if cap = l.toNat then ba else ba.map (·.add (l.toNat * sz))) (h - l.toNat) (cap - l.toNat), run_slice ho hu (by intro _ _ h; cases h) ?_, ?_⟩
      · rw [h6]
        simp only [Instr.slice, Sem.run_bind, run_underlying hu, Result.andThen_ok, hbnd, szOf_sound hz, Sem.run_pure]
      · simp only [R]
        refine ⟨c, h5, _, _, rfl, by omega, by omega, fun hc => ?_⟩
        rw [if_neg (by omega), h9 (by omega)]
        simp [add_none]
    split
    · rename_i sz hz h2 h3
      have e2 := mapNone h2; have e3 := mapNone h3
      refine resNd r rfl fun hp => ?_
      exact key hz hp.1 (by omega) (Nat.le_refl _) ⟨fun _ => rfl, fun y hy => by rw [e2] at hy; cases hy⟩ e3
    · rename_i sz k h hz h2 h3
      have e3 := mapNone h3
      obtain ⟨q, e2, hq⟩ := mapSome h2
      refine resNd r rfl fun hp => ?_
      exact key hz hp.1 (by omega) (by omega) ⟨(fun h => by rw [e2] at h; cases h), (fun y hy => by rw [e2] at hy; cases hy; exact ⟨k, by rw [hq]; congr 1; omega⟩)⟩ e3
    · trivial
  · rename_i s l hu hx hl
    have h4 := dataOf e _ hx rfl
    simp only [R] at h4
    have hsz : ((⟨s.toArray⟩ : ByteArray).size) = s.length := by simp [ByteArray.size]
    have key : ∀ {h : Nat}, 0 ≤ l → l.toNat ≤ h → h ≤ s.length → HiIs ev hi h s.length → mx = none → ∃ v, (execOp a.eval o).run P w = .ok (.value v) w ∧ R g (.str ((s.take h).drop l.toNat)) v := by
      intro h hl0 b1 b2 hh hmx
      subst hmx
      have hbnd := bounds_ok (P := P) (w := w) (len := s.length) (cap := s.length) (isS := false) (lo := lo) (hi := hi) (mx := none) (l := l.toNat) (h := h) (m := s.length) e hl (by omega) hh ⟨fun _ => rfl, fun _ h => by cases h⟩ (fun h => absurd rfl h) b1 b2 (Nat.le_refl _)
      refine ⟨.string ((⟨s.toArray⟩ : ByteArray).extract l.toNat h), run_slice ho hu (by intro _ _ h; cases h) ?_, ?_⟩
      · rw [h4.1]
        simp only [Option.map_none] at hbnd
        simp [Instr.slice, run_underlying hu, hsz, hbnd]
      · simp only [R]
        refine ⟨?_, by simp; omega⟩
        congr 1
        apply ByteArray.ext
        apply Array.ext'
        simp [ByteArray.data_extract, List.extract_eq_take_drop, List.drop_take]
    split
    · rename_i h2 h3
      have e2 := mapNone h2; have e3 := mapNone h3
      refine resNd r rfl fun hp => ?_
      have := key (h := s.length) hp.1 (by omega) (Nat.le_refl _) ⟨fun _ => rfl, fun y hy => by rw [e2] at hy; cases hy⟩ e3
      simpa using this
    · rename_i k h h2 h3
      have e3 := mapNone h3
      obtain ⟨q, e2, hq⟩ := mapSome h2
      refine resNd r rfl fun hp => ?_
      exact key (h := h.toNat) hp.1 (by omega) (by omega) ⟨(fun h => by rw [e2] at h; cases h), (fun y hy => by rw [e2] at hy; cases hy; exact ⟨k, by rw [hq]; congr 1; omega⟩)⟩ e3
    · trivial
  · trivial

end
end Go.Ab
/- The executor is sound, 7: append. -/
namespace Go.Ab

/-- An append right laid anew: where the array lies, how many are in use, how many fit; its cells in use are unchanging from now on. -/
def setTok (g : G) (t b : Nat) (vals : Array Value) (k : Tok) : G :=
  { g with
    σ := fun x => if x.block = b then (if x.spot = none ∧ x.off < k.n * k.sz then vals[x.off]? else none) else g.σ x
    τ := upd g.τ t (some k) }

theorem draw_ext [Lay] {g : G} {U : Nat → Prop} {h : Heap} {w : World} (i : Inv g U h w) : Ext g w g w.drew := ⟨G.le.refl g, rfl, rfl, fun _ _ e => .inl e, i.sub, ⟨rfl, rfl, rfl, Nat.le_refl _, fun _ _ => rfl⟩⟩

section
variable {P : Program} {n : Nat} {g : G} {β : Nat → Nat} {U : Nat → Prop} {y : Nat → Bool → Prop} {st : St} {a : Act} {w : World} {ev : Operand → D} {o : Oper}

/-- The heap with an append right for m elements. -/
def tokH (h : Heap) (t m nt : Nat) : Heap := { h with hw := upd h.hw t (some m), nt := nt }

/-- A new array for a slice that grows: `t`: its append right. -/
theorem Rel.newTok [Lay] (r : Rel n g β U y st a w) {t nt : Nat} {vals : Array Value} {T : Nat} {k : Tok} (ha : k.a = some ⟨w.heap.size, 0, none⟩) (hnc : k.n ≤ k.cap) (hv : k.cap * k.sz ≤ vals.size ∧ T = k.ty)
    (ht : t < nt) (hnt : st.h.nt ≤ nt) (hvt : st.h.vw t = none) (hle : ∀ k0, g.τ t = some k0 → k0.sz = k.sz ∧ k0.n < k.n) :
    Rel n (setTok g t w.heap.size vals k) β U y { st with h := tokH st.h t k.n nt } a (w.alloc (.cells vals T (0, 0))) ∧ G.le g (setTok g t w.heap.size vals k) := by
  have r1 := r.ext (Ext.alloc r.inv (.cells vals T (0, 0)))
  have i := r1.inv
  have le : G.le g (setTok g t w.heap.size vals k) := by
    refine ⟨fun x v e => ?_, fun _ _ e => e, fun t' k0 e => ?_⟩
    · have := r.inv.cellLt e
      simp only [setTok]; rw [if_neg (by omega)]; exact e
    · by_cases hx : t' = t
      · subst hx
        obtain ⟨h1, h2⟩ := hle k0 e
        exact ⟨k, by simp [setTok, upd_same], h1.symm, by omega, fun h => by omega⟩
      · exact ⟨k0, by simp only [setTok, upd_other _ _ hx]; exact e, rfl, Nat.le_refl _, fun _ => rfl⟩
  have hspare : k.n * k.sz ≤ vals.size := Nat.le_trans (Nat.mul_le_mul_right _ hnc) hv.1
  have σold : ∀ {x : Addr} {v : Value}, (setTok g t w.heap.size vals k).σ x = some v → (x.block = w.heap.size ∧ x.spot = none ∧ x.off < k.n * k.sz ∧ vals[x.off]? = some v) ∨ (x.block ≠ w.heap.size ∧ g.σ x = some v) := by
    intro x v e
    simp only [setTok] at e
    split at e
    · rename_i hb
      split at e
      · rename_i hc; exact .inl ⟨hb, hc.1, hc.2, e⟩
      · cases e
    · rename_i hb; exact .inr ⟨hb, e⟩
  have tokOld : ∀ {t' : Nat} {k' : Tok}, t' ≠ t → (setTok g t w.heap.size vals k).τ t' = some k' → g.τ t' = some k' := fun hx e => by simpa only [setTok, upd_other _ _ hx] using e
  have spareLt : ∀ {t' m b : Nat} {k' : Tok}, st.h.hw t' = some m → g.τ t' = some k' → Actv k' (st.h.vw t') → k'.a = some ⟨b, 0, none⟩ → b < w.heap.size := by
    intro t' m b k' e1 e2 e3 e4
    obtain ⟨k0, f1, f2, f3⟩ := r.inv.tok t' m e1
    have : k0 = k' := by rw [f1] at e2; cases e2; rfl
    subst this
    obtain ⟨b', g1, g2, _⟩ := (f3 e3).blockLt
    rw [g1] at e4; cases e4; exact g2
  refine ⟨⟨r1.defers, r1.size, r1.keys, fun s d h => (r1.slot s d h).mono le, r1.base, fun s cs h => ?_, r1.ownInj, ?_⟩, le⟩
  · obtain ⟨h1, h2, h3, h4, h5⟩ := r1.own s cs h
    have hlt := (r.own s cs h).1.lt
    refine ⟨h1.mono le rfl, h2, fun x v e => ?_, h4, fun t' m k' e1 e2 e3 e4 => ?_⟩
    · rcases σold e with ⟨hb, _⟩ | ⟨_, he⟩
      · omega
      · exact h3 x v he
    · by_cases hx : t' = t
      · subst hx
        simp only [setTok, upd_same, Option.some.injEq] at e2
        subst e2
        rw [ha] at e4; simp at e4
      · exact h5 t' m k' (by simpa only [tokH, upd_other _ _ hx] using e1) (tokOld hx e2) e3 e4
  · refine ⟨fun x v e => ?_, i.ub, i.muLt, fun l row e => ?_, i.boxInj, fun t' m e => ?_, fun t' m k' b l e1 e2 e3 e4 e5 => ?_, fun t1 t2 m1 m2 k1 k2 b e1 e2 f1 f2 g1 g2 c1 c2 => ?_, i.frL, fun t' ht' => ?_, fun t' (ht' : nt ≤ t') => i.frV t' (by show st.h.nt ≤ t'; omega), i.ltab.mono le⟩
    · rcases σold e with ⟨hb, hs, hl, hv'⟩ | ⟨_, he⟩
      · refine ⟨?_, hs⟩
        simp only [World.cell?, hb, heap_alloc_new, hs]
        simpa using hv'
      · exact i.sub x v he
    · obtain ⟨b, e1, e2, e3, e4⟩ := i.box l row e
      refine ⟨b, e1, e2.mono le rfl, e3, fun x v hx => ?_⟩
      rcases σold hx with ⟨hb, _⟩ | ⟨_, he⟩
      · have := r.inv.muLt l b e1; omega
      · exact e4 x v he
    · by_cases hx : t' = t
      · subst hx
        have e' : upd st.h.hw t' (some k.n) t' = some m := e
        rw [upd_same] at e'; cases e'
        refine ⟨k, by simp [setTok, upd_same], rfl, fun _ => ?_⟩
        show TokAt _ _ _ _ (st.h.vw t')
        rw [hvt]
        refine ⟨w.heap.size, ha, fun hu => absurd (r.inv.ub _ hu) (by omega), T, vals, RowB.of (heap_alloc_new w _), hv, fun j hj => ?_, fun _ h => by cases h⟩
        simp only [lowOf] at hj
        simp only [setTok, if_true]
        rw [if_neg (by simp; omega)]
      · have e' : upd st.h.hw t (some k.n) t' = some m := e
        rw [upd_other _ _ hx] at e'
        obtain ⟨k', f1, f2, f3⟩ := i.tok t' m e'
        refine ⟨k', by simp only [setTok, upd_other _ _ hx]; exact f1, f2, fun hk => ?_⟩
        refine (f3 hk).mono le fun b c1 _ => ⟨rfl, fun j hj => ?_⟩
        have hlt := spareLt e' f1 hk c1
        simp only [setTok]; rw [if_neg (by omega)]; exact hj
    · by_cases hx : t' = t
      · subst hx
        simp only [setTok, upd_same, Option.some.injEq] at e2
        subst e2
        rw [ha] at e4
        intro e6
        have := r.inv.muLt l b e6
        simp at e4
      · exact i.tokBox t' m k' b l (by simpa only [tokH, upd_other _ _ hx] using e1) (tokOld hx e2) e3 e4 e5
    · by_cases hx1 : t1 = t
      · by_cases hx2 : t2 = t
        · rw [hx1, hx2]
        · subst hx1
          simp only [setTok, upd_same, Option.some.injEq] at f1
          subst f1
          rw [ha] at c1; simp at c1
          have := spareLt (by simpa only [tokH, upd_other _ _ hx2] using e2) (tokOld hx2 f2) g2 c2
          omega
      · by_cases hx2 : t2 = t
        · subst hx2
          simp only [setTok, upd_same, Option.some.injEq] at f2
          subst f2
          rw [ha] at c2; simp at c2
          have := spareLt (by simpa only [tokH, upd_other _ _ hx1] using e1) (tokOld hx1 f1) g1 c1
          omega
        · exact i.tokInj t1 t2 m1 m2 k1 k2 b (by simpa only [tokH, upd_other _ _ hx1] using e1) (by simpa only [tokH, upd_other _ _ hx2] using e2) (tokOld hx1 f1) (tokOld hx2 f2) g1 g2 c1 c2
    · have ht'' : nt ≤ t' := ht'
      simp only [setTok]
      rw [upd_other _ _ (by omega)]
      exact i.frT t' (by omega)

/-- An append right without room: no memory turns. -/
theorem Rel.idleTok [Lay] (r : Rel n g β U y st a w) {t : Nat} {k : Tok} (hk : ¬ k.n < k.cap) (ht : st.h.nt = t) :
    Rel n { g with τ := upd g.τ t (some k) } β U y { st with h := tokH st.h t k.n (t + 1) } a w ∧ G.le g { g with τ := upd g.τ t (some k) } := by
  have i := r.inv
  have hvt := i.frV t (by omega)
  have hnone := i.frT t (by omega)
  have le : G.le g { g with τ := upd g.τ t (some k) } := by
    refine ⟨fun _ _ e => e, fun _ _ e => e, fun t' k0 e => ?_⟩
    have hx : t' ≠ t := fun h => by subst h; rw [hnone] at e; cases e
    exact ⟨k0, by simp only [upd_other _ _ hx]; exact e, rfl, Nat.le_refl _, fun _ => rfl⟩
  have tokOld : ∀ {t' m : Nat} {k' : Tok}, (tokH st.h t k.n (t + 1)).hw t' = some m → upd g.τ t (some k) t' = some k' → Actv k' (st.h.vw t') → st.h.hw t' = some m ∧ g.τ t' = some k' := by
    intro t' m k' e1 e2 e3
    by_cases hx : t' = t
    · subst hx
      rw [upd_same] at e2; cases e2; rw [hvt] at e3; exact absurd e3 hk
    · exact ⟨by simpa only [tokH, upd_other _ _ hx] using e1, by simpa only [upd_other _ _ hx] using e2⟩
  refine ⟨⟨r.defers, r.size, r.keys, fun s d h => (r.slot s d h).mono le, r.base, fun s cs h => ?_, r.ownInj, ?_⟩, le⟩
  · obtain ⟨h1, h2, h3, h4, h5⟩ := r.own s cs h
    exact ⟨h1.mono le rfl, h2, h3, h4, fun t' m k' e1 e2 e3 => by obtain ⟨f1, f2⟩ := tokOld e1 e2 e3; exact h5 t' m k' f1 f2 e3⟩
  · refine ⟨i.sub, i.ub, i.muLt, fun l row e => ?_, i.boxInj, fun t' m e => ?_, fun t' m k' b l e1 e2 e3 => ?_, fun t1 t2 m1 m2 k1 k2 b e1 e2 f1 f2 g1 g2 => ?_, i.frL, fun t' ht' => ?_, fun t' (ht' : t + 1 ≤ t') => i.frV t' (by omega), i.ltab⟩
    · obtain ⟨b, e1, e2, e3, e4⟩ := i.box l row e
      exact ⟨b, e1, e2.mono le rfl, e3, e4⟩
    · by_cases hx : t' = t
      · subst hx
        have e' : upd st.h.hw t' (some k.n) t' = some m := e
        rw [upd_same] at e'; cases e'
        exact ⟨k, by simp only [upd_same], rfl, fun h => by
          have h' : Actv k (st.h.vw t') := h
          rw [hvt] at h'; exact absurd h' hk⟩
      · have e' : upd st.h.hw t (some k.n) t' = some m := e
        rw [upd_other _ _ hx] at e'
        obtain ⟨k', f1, f2, f3⟩ := i.tok t' m e'
        exact ⟨k', by simp only [upd_other _ _ hx]; exact f1, f2, fun h => (f3 h).mono le fun _ _ _ => ⟨rfl, fun _ h => h⟩⟩
    · obtain ⟨f1, f2⟩ := tokOld e1 e2 e3
      exact i.tokBox t' m k' b l f1 f2 e3
    · obtain ⟨a1, a2⟩ := tokOld e1 f1 g1
      obtain ⟨b1, b2⟩ := tokOld e2 f2 g2
      exact i.tokInj t1 t2 m1 m2 k1 k2 b a1 b1 a2 b2 g1 g2
    · have ht'' : t + 1 ≤ t' := ht'
      simp only
      rw [upd_other _ _ (by omega)]
      exact i.frT t' (by omega)

/-- The ghost memory behind an append in place. -/
def roomG (g : G) (t b : Nat) (arr : Array Value) (k : Tok) (n' : Nat) : G :=
  { g with
    σ := fun x => if x.block = b ∧ x.spot = none ∧ k.n * k.sz ≤ x.off ∧ x.off < n' * k.sz then arr[x.off]? else g.σ x
    τ := upd g.τ t (some { k with n := n' }) }

theorem LayOk.room [Lay] {g g' : G} {w : World} {b T : Nat} {arr vals : Array Value} {fz : Nat × Nat} (h : LayOk g w) (l : G.le g g') (hw : w.heap[b]? = some (.cells vals T fz)) (hs : arr.size = vals.size) (hlow : ∀ j v, g.σ ⟨b, j, none⟩ = some v → arr[j]? = vals[j]?) : LayOk g' (w.setRow b arr) := by
  refine ⟨fun a v e => l.σ a v (h.1 a v e), fun b' cs e => ?_⟩
  obtain ⟨T', fz', h1⟩ := h.2 b' cs e
  by_cases hx : b' = b
  · subst hx
    rw [hw] at h1
    have hc : vals = cs := by injection h1 with h1; injection h1
    subst hc
    have : arr = vals := by
      apply Array.ext_getElem?
      intro j
      rcases Nat.lt_or_ge j vals.size with hj | hj
      · obtain ⟨v, hv⟩ := (Lay.has b' vals e).2 j hj
        exact hlow j v (h.1 _ v hv)
      · rw [Array.getElem?_eq_none hj, Array.getElem?_eq_none (by omega)]
    rw [this]
    exact ⟨T, fz, setRow_heap w b' vals vals T fz hw⟩
  · rw [(turn_setRow w b arr).other _ hx]
    exact ⟨T', fz', h1⟩

/-- An append in place. -/
theorem Rel.roomTok [Lay] (r : Rel n g β U y st a w) {t b m : Nat} {k : Tok} {T : Nat} {vals : Array Value} {news : List Value} (hl : st.h.hw t = some k.n) (hvt : st.h.vw t = none) (hk : g.τ t = some k) (hb : k.a = some ⟨b, 0, none⟩)
    (hh : RowB w b vals T) (hTy : T = k.ty) (hsz : k.cap * k.sz ≤ vals.size) (hsp : ∀ j, k.n * k.sz ≤ j → g.σ ⟨b, j, none⟩ = none) (hlen : news.length = m * k.sz) (hm : 0 < m) (hroom : k.n + m ≤ k.cap) (hU : ¬ U b) :
    let arr := (vals.toList.take (k.n * k.sz) ++ news ++ vals.toList.drop (k.n * k.sz + news.length)).toArray
    Rel n (roomG g t b arr k (k.n + m)) β U y { st with h := tokH st.h t (k.n + m) st.h.nt } a (w.setRow b arr) ∧ G.le g (roomG g t b arr k (k.n + m)) ∧ Kept U w (w.setRow b arr) := by
  intro arr
  have i := r.inv
  have tn := turn_setRow w b arr
  have hcap : (k.n + m) * k.sz ≤ vals.size := Nat.le_trans (Nat.mul_le_mul_right _ hroom) hsz
  have hadd : (k.n + m) * k.sz = k.n * k.sz + news.length := by rw [Nat.add_mul, hlen]
  have hasz : arr.size = vals.size := by
    simp only [arr, List.size_toArray, List.length_append, List.length_take, List.length_drop, Array.length_toList]
    omega
  obtain ⟨fz, hh1, hh0⟩ := id hh
  have hh2 := setRow_heap w b vals arr T fz hh1
  have hlow : ∀ j, j < k.n * k.sz → arr[j]? = vals[j]? := by
    intro j hj
    simp only [arr, List.getElem?_toArray]
    rw [List.append_assoc, List.getElem?_append_left (by simp; omega), List.getElem?_take, if_pos hj]
    simp
  have σlow : ∀ {x : Addr} {v : Value}, g.σ x = some v → x.block = b → x.off < k.n * k.sz := by
    intro x v e hx
    rcases Nat.lt_or_ge x.off (k.n * k.sz) with h | h
    · exact h
    · have hs := (i.sub x v e).2
      have : x = ⟨b, x.off, none⟩ := by cases x; simp_all
      rw [this, hsp _ h] at e; cases e
  have le : G.le g (roomG g t b arr k (k.n + m)) := by
    refine ⟨fun x v e => ?_, fun _ _ e => e, fun t' k0 e => ?_⟩
    · simp only [roomG]
      rw [if_neg (by intro h; have := σlow e h.1; omega)]; exact e
    · by_cases hx : t' = t
      · subst hx
        rw [hk] at e; cases e
        exact ⟨{ k with n := k.n + m }, by simp [roomG, upd_same], rfl, by simp, fun h => by simp at h; omega⟩
      · exact ⟨k0, by simp only [roomG, upd_other _ _ hx]; exact e, rfl, Nat.le_refl _, fun _ => rfl⟩
  have σold : ∀ {x : Addr} {v : Value}, (roomG g t b arr k (k.n + m)).σ x = some v → (x.block = b ∧ x.spot = none ∧ k.n * k.sz ≤ x.off ∧ x.off < (k.n + m) * k.sz ∧ arr[x.off]? = some v) ∨ g.σ x = some v := by
    intro x v e
    simp only [roomG] at e
    split at e
    · rename_i hc; exact .inl ⟨hc.1, hc.2.1, hc.2.2.1, hc.2.2.2, e⟩
    · exact .inr e
  have live : Actv k (st.h.vw t) := by rw [hvt]; show k.n < k.cap; omega
  have tokOld : ∀ {t' : Nat} {k' : Tok}, t' ≠ t → (roomG g t b arr k (k.n + m)).τ t' = some k' → g.τ t' = some k' := fun hx e => by simpa only [roomG, upd_other _ _ hx] using e
  have hwOld : ∀ {t' m' : Nat}, t' ≠ t → (tokH st.h t (k.n + m) st.h.nt).hw t' = some m' → st.h.hw t' = some m' := fun hx e => by simpa only [tokH, upd_other _ _ hx] using e
  have tokT : ∀ {k' : Tok}, (roomG g t b arr k (k.n + m)).τ t = some k' → k' = { k with n := k.n + m } := fun e => by simp only [roomG, upd_same, Option.some.injEq] at e; exact e.symm
  refine ⟨⟨r.defers.kept tn.defs, r.size, r.keys, fun s d h => (r.slot s d h).mono le, r.base, fun s cs h => ?_, r.ownInj, ?_⟩, le, tn.kept hU⟩
  · obtain ⟨h1, h2, h3, h4, h5⟩ := r.own s cs h
    have hne : β s ≠ b := fun e => h5 t k.n k hl hk live (by rw [hb, e])
    refine ⟨h1.mono le (tn.other _ hne), h2, fun x v e => ?_, h4, fun t' m' k' e1 e2 e3 e4 => ?_⟩
    · rcases σold e with ⟨hx, _⟩ | he
      · rw [hx]; exact Ne.symm hne
      · exact h3 x v he
    · by_cases hx : t' = t
      · subst hx
        have := tokT e2; subst this
        exact h5 t' k.n k hl hk live e4
      · exact h5 t' m' k' (hwOld hx e1) (tokOld hx e2) e3 e4
  · refine ⟨fun x v e => ?_, fun c hc => by rw [tn.size]; exact i.ub c hc, fun l c e => by rw [tn.size]; exact i.muLt l c e, fun l row e => ?_, i.boxInj, fun t' m' e => ?_, fun t' m' k' c l e1 e2 e3 e4 e5 => ?_, fun t1 t2 m1 m2 k1 k2 c e1 e2 f1 f2 g1 g2 c1 c2 => ?_, i.frL, fun t' ht' => ?_, i.frV, i.ltab.room le hh1 hasz fun j v e => hlow j (σlow e rfl)⟩
    · rcases σold e with ⟨hx, hs, h1, h2, hv⟩ | he
      · refine ⟨?_, hs⟩
        simp only [World.cell?, hx, hh2, hs]
        simpa using hv
      · by_cases hx : x.block = b
        · have := σlow he hx
          refine ⟨?_, (i.sub x v he).2⟩
          have h1 := (i.sub x v he).1
          simp only [World.cell?, hx, hh2, (i.sub x v he).2] at h1 ⊢
          rw [hh1] at h1
          simp only [Option.isSome_none, Bool.false_eq_true, if_false] at h1 ⊢
          rw [hlow _ this]; exact h1
        · exact ⟨(cell?_of_heap (tn.other _ hx)).trans (i.sub x v he).1, (i.sub x v he).2⟩
    · obtain ⟨c, e1, e2, e3, e4⟩ := i.box l row e
      have hne : c ≠ b := fun h => i.tokBox t k.n k b l hl hk live hb (by have e0 : st.h.box l = some row := e; rw [e0]; simp) (by rw [e1, h])
      refine ⟨c, e1, e2.mono le (tn.other _ hne), e3, fun x v hx => ?_⟩
      rcases σold hx with ⟨hb', _⟩ | he
      · rw [hb']; exact Ne.symm hne
      · exact e4 x v he
    · by_cases hx : t' = t
      · subst hx
        have e' : upd st.h.hw t' (some (k.n + m)) t' = some m' := e
        rw [upd_same] at e'; cases e'
        refine ⟨{ k with n := k.n + m }, by simp [roomG, upd_same], rfl, fun _ => ?_⟩
        show TokAt _ _ _ _ (st.h.vw t')
        rw [hvt]
        refine ⟨b, hb, hU, T, arr, hh.setRow arr hasz, ⟨by rw [hasz]; exact hsz, hTy⟩, fun j hj => ?_, fun _ h => by cases h⟩
        simp only [lowOf] at hj
        simp only [roomG]
        rw [if_neg (fun h => by have h9 := h.2.2.2; exact absurd h9 (by show ¬ (j < (k.n + m) * k.sz); omega))]
        exact hsp j (by omega)
      · obtain ⟨k', f1, f2, f3⟩ := i.tok t' m' (hwOld hx e)
        refine ⟨k', by simp only [roomG, upd_other _ _ hx]; exact f1, f2, fun hk' => ?_⟩
        refine (f3 hk').mono le fun c c1 _ => ?_
        have hne : c ≠ b := fun h => hx (i.tokInj t' t m' k.n k' k b (hwOld hx e) hl f1 hk hk' live (by rw [c1, h]) hb)
        exact ⟨tn.other _ hne, fun j hj => by simp only [roomG]; rw [if_neg (fun h => hne h.1)]; exact hj⟩
    · by_cases hx : t' = t
      · subst hx
        have := tokT e2; subst this
        exact i.tokBox t' k.n k c l hl hk live e4 e5
      · exact i.tokBox t' m' k' c l (hwOld hx e1) (tokOld hx e2) e3 e4 e5
    · by_cases hx1 : t1 = t
      · by_cases hx2 : t2 = t
        · rw [hx1, hx2]
        · subst hx1
          have := tokT f1; subst this
          exact i.tokInj t1 t2 k.n m2 k k2 c hl (hwOld hx2 e2) hk (tokOld hx2 f2) live g2 c1 c2
      · by_cases hx2 : t2 = t
        · subst hx2
          have := tokT f2; subst this
          exact i.tokInj t1 t2 m1 k.n k1 k c (hwOld hx1 e1) hl (tokOld hx1 f1) hk g1 live c1 c2
        · exact i.tokInj t1 t2 m1 m2 k1 k2 c (hwOld hx1 e1) (hwOld hx2 e2) (tokOld hx1 f1) (tokOld hx2 f2) g1 g2 c1 c2
    · have ht'' : st.h.nt ≤ t' := ht'
      have hx : t' ≠ t := fun h => by subst h; rw [i.frT t' ht''] at hk; cases hk
      simp only [roomG]
      rw [upd_other _ _ hx]
      exact i.frT t' ht''

end
end Go.Ab
/- The executor is sound, 8: append, make, len, min, max, calls; all operations. -/
namespace Go.Ab

/-- What is appended: so many cells, read alike in every world with this heap. -/
structure Src (P : Program) (w : World) (sz m : Nat) (x : Value) (news : List Value) : Prop where
  len : ∀ w', (Builtin.lenOf x).run P w' = .ok m w'
  cells : ∀ w', w'.heap = w.heap → (Builtin.firstCells sz m x).run P w' = .ok news.toArray w'
  size : news.length = m * sz

theorem cell?_heap {w w' : World} (h : w'.heap = w.heap) (x : Addr) : w'.cell? x = w.cell? x := by simp [World.cell?, h]

theorem Src.slice {P : Program} {w : World} {sz m : Nat} {p : Addr} {cap : Nat} {news : List Value} (hl : news.length = m * sz) (h : ∀ k v, news[k]? = some v → w.cell? (p.add k) = some v) : Src P w sz m (.slice (some p) m cap) news where
  len w' := rfl
  cells w' hw := run_firstCells_some (P := P) w' sz m p m cap news hl (fun j v hj => by rw [cell?_heap hw]; exact h j v hj)
  size := hl

theorem Src.nil {P : Program} {w : World} {sz : Nat} {cap : Nat} : Src P w sz 0 (.slice none 0 cap) [] where
  len w' := rfl
  cells w' _ := rfl
  size := by simp

/-- What may stand as append's second argument's type. -/
def AppTy (P : Program) (u : Nat) : Prop := (∃ e, P.underlying u = some (.slice e)) ∨ P.underlying u = some .string

theorem run_app_room {P : Program} {w : World} {t u ty e : Nat} {i : TypeInfo} (ht : P.underlying t = some (.slice e)) (hi : P.info? e = some i) (hu : AppTy P u)
    {base : Option Addr} {n cap m : Nat} {x : Value} {news : List Value} (hs : Src P w i.size m x news) (hroom : n + m ≤ cap) {w' : World}
    (hst : match base with | some p => (storeCells (p.add (n * i.size)) news).run P w = .ok () w' | none => w' = w) :
    (Builtin.append_ #[t, u] ty #[.slice base n cap, x]).run P w = .ok (.slice base (n + m) cap) w' := by
  have hcells := hs.cells w rfl
  rcases hu with ⟨e', hd⟩ | hd
  · cases base with
    | none =>
      simp only at hst; subst hst
      simp [Builtin.append_, run_underlying ht, run_underlying hd, sizeOf, typeInfo, hi, hs.len, hroom, hcells]
    | some p =>
      simp only at hst
      simp [Builtin.append_, run_underlying ht, run_underlying hd, sizeOf, typeInfo, hi, hs.len, hroom, hcells, hst]
  · cases base with
    | none =>
      simp only at hst; subst hst
      simp [Builtin.append_, run_underlying ht, run_underlying hd, sizeOf, typeInfo, hi, hs.len, hroom, hcells]
    | some p =>
      simp only at hst
      simp [Builtin.append_, run_underlying ht, run_underlying hd, sizeOf, typeInfo, hi, hs.len, hroom, hcells, hst]

theorem run_app_grow {P : Program} {w : World} {t u ty e : Nat} {i : TypeInfo} {z : Value} (ht : P.underlying t = some (.slice e)) (hi : P.info? e = some i) (hz0 : i.zero = some z) (hu : AppTy P u)
    {base : Option Addr} {n cap m : Nat} {x : Value} {olds news : List Value} (hb : Src P w i.size n (.slice base n cap) olds) (hs : Src P w i.size m x news) (hg : cap < n + m) (hbytes : (n + m) * i.bytes ≤ 140737488355328) (h63 : n + m ≤ 281474976710656) (h1 : 0 < i.bytes) :
    (Builtin.append_ #[t, u] ty #[.slice base n cap, x]).run P w =
      .ok (.slice (some ⟨w.heap.size, 0, none⟩) (n + m) (grownCap w (n + m) cap e)) (w.drew.alloc (.cells ((olds ++ news).toArray ++ Builtin.zeroCells z.cells (grownCap w (n + m) cap e - (n + m))) e)) := by
  have hcells := hs.cells w.drew rfl
  have holds := hb.cells w.drew rfl
  have hn : ¬ (n + m ≤ cap) := by omega
  have h63' : ¬ (9223372036854775807 < ((n : Int) + (m : Int))) := by omega
  have h48' : ¬ (281474976710656 < Builtin.nextslicecap (n + m) cap * i.bytes) := by have := growslice_fits hg hbytes; omega
  have hbz : ¬ (i.bytes = 0) := by omega
  have ha : (olds ++ news).toArray = olds.toArray ++ news.toArray := by simp
  rw [ha, Array.append_assoc]
  rcases hu with ⟨e', hd⟩ | hd <;>
    simp [Builtin.append_, run_underlying ht, run_underlying hd, sizeOf, typeInfo, zeroValue, hi, hz0, hs.len, hn, h63', h48', Question.forced, hcells, holds, newRow, grownCap]

theorem flat_append (xs zs : List Value) : flat (xs ++ zs) = flat xs ++ flat zs := by simp [flat]

theorem flat_ones {g : G} {vs : List Value} {get : Nat → D} (h : ∀ i u, vs[i]? = some u → R g (get i) u ∧ ones (get i) = true) : ∀ v ∈ flat vs, v.oneCell' = true := by
  intro v hv
  obtain ⟨u, hu, hv⟩ := List.mem_flatMap.1 hv
  obtain ⟨i, hi, rfl⟩ := List.getElem_of_mem hu
  obtain ⟨h1, h2⟩ := h i _ (List.getElem?_eq_getElem hi)
  have hc := h1.cells
  obtain ⟨k, hk, rfl⟩ := List.getElem_of_mem hv
  have hdk : k < (cellsD (get i)).length := by rw [← hc.length]; exact hk
  obtain ⟨v', hv', hr⟩ := hc.get k _ (List.getElem?_eq_getElem hdk)
  rw [List.getElem?_eq_getElem hk] at hv'; cases hv'
  exact oneD_sound hr (List.all_eq_true.1 h2 _ (List.getElem_mem hdk))

/-- The reverse of listOpen. -/
theorem R.ofList {g : G} {n sz : Nat} {get : Nat → D} {own : Own} {a : Option Addr} {cap : Nat} {vs : List Value} (hl : vs.length = n) (hn : n ≤ lenM) (hc : n ≤ cap) (ho : OwnOk g own n a cap)
    (he : ∀ i u, vs[i]? = some u → R g (get i) u ∧ u.cells.size = sz ∧ ones (get i) = true)
    (hs : 0 < n → ∃ p, a = some p ∧ p.spot = none ∧ ∀ (i : Nat) (u : Value), vs[i]? = some u → ∀ j, j < sz → g.σ ⟨p.block, p.off + i * sz + j, none⟩ = u.cells[j]?) : R g (.list n sz get own) (.slice a n cap) := by
  simp only [R]
  refine ⟨hn, a, cap, rfl, hc, ho, fun i hi => ?_⟩
  obtain ⟨p, h1, h2, h3⟩ := hs (by omega)
  have hv := List.getElem?_eq_getElem (l := vs) (i := i) (by omega)
  obtain ⟨e1, e2, e3⟩ := he _ _ hv
  exact ⟨p, _, h1, h2, e1, ⟨e2, e3⟩, h3 _ _ hv⟩

/-- What srcD says of a value. -/
theorem srcD_sound {P : Program} {g : G} {w : World} (sub : ∀ a v, g.σ a = some v → w.cell? a = some v ∧ a.spot = none) {sz m : Nat} {d : D} {f : Nat → D} {v : Value} (h : srcD sz d = some (m, f)) (hr : R g d v) :
    ∃ vs : List Value, vs.length = m ∧ (∀ i u, vs[i]? = some u → R g (f i) u ∧ u.cells.size = sz ∧ ones (f i) = true) ∧ Src P w sz m v (flat vs) := by
  cases d <;> simp only [srcD] at h <;> try cases h
  · rename_i s
    cases hb : Nat.beq sz 1 with
    | false => rw [hb] at h; cases h
    | true =>
      rw [hb] at h; simp only [cond_true] at h; cases h
      have := beq_eq.1 hb; subst this
      simp only [R] at hr
      obtain ⟨rfl, _⟩ := hr
      have hel : ∀ (i : Nat) (u : Value), (s.map fun (b : UInt8) => Value.int .u8 b.toNat)[i]? = some u → u = .int .u8 (s.getD i 0).toNat := by
        intro i u hu
        rw [List.getElem?_map] at hu
        cases hs : s[i]? with
        | none => rw [hs] at hu; cases hu
        | some b => rw [hs] at hu; cases hu; simp [List.getD, hs]
      refine ⟨s.map fun b => .int .u8 b.toNat, by simp, fun i u hu => ?_, ?_⟩
      · rw [hel i u hu]; exact ⟨by simp only [strG, R], rfl, rfl⟩
      · have hf : ∀ l : List UInt8, flat (l.map fun b => Value.int .u8 b.toNat) = l.map fun b => .int .u8 b.toNat := by
          intro l; induction l with
          | nil => rfl
          | cons b r ih => simp only [flat] at ih; simp only [flat, List.map_cons, List.flatMap_cons, ih]; rfl
        rw [hf]
        refine ⟨fun w' => ?_, fun w' _ => ?_, by simp⟩
        · simp [Builtin.lenOf, ByteArray.size]
        · simp [Builtin.firstCells]
  · rename_i m0 z f0 own
    have hmf : (z = sz ∨ m0 = 0) ∧ m = m0 ∧ f = f0 := by
      cases hb : Nat.beq z sz with
      | true => rw [hb] at h; simp only [cond_true] at h; cases h; exact ⟨.inl (beq_eq.1 hb), rfl, rfl⟩
      | false =>
        rw [hb] at h; simp only [cond_false] at h
        cases hb2 : Nat.beq m0 0 with
        | true => rw [hb2] at h; simp only [cond_true] at h; cases h; exact ⟨.inr (beq_eq.1 hb2), rfl, rfl⟩
        | false => rw [hb2] at h; cases h
    obtain ⟨hz, rfl, rfl⟩ := hmf
    obtain ⟨a, cap, vs, h1, h2, h3, h4, h5, h6, h7, _, h8⟩ := hr.listOpen
    have hsz : ∀ u ∈ vs, u.cells.size = sz := by
      rcases hz with rfl | h0
      · exact h6
      · intro u hu; have := List.length_pos_of_mem hu; omega
    refine ⟨vs, h4, fun i u hu => ?_, ?_⟩
    · obtain ⟨e1, e2⟩ := h5 i u hu
      have hi : i < m := by
        rcases Nat.lt_or_ge i vs.length with h | h
        · omega
        · rw [List.getElem?_eq_none h] at hu; cases hu
      exact ⟨e1, hsz u (List.mem_of_getElem? hu), h8 i hi⟩
    · subst h1
      cases a with
      | none =>
        have : m = 0 := by
          rcases Nat.eq_zero_or_pos m with h | h
          · exact h
          · obtain ⟨p, hp, _⟩ := h7 h; cases hp
        subst this
        have : vs = [] := by simpa using h4
        subst this
        exact Src.nil
      | some p =>
        have hl := flat_length hsz
        refine Src.slice (by rw [hl, h4]) ?_
        rcases Nat.eq_zero_or_pos m with h | h
        · subst h
          have : vs = [] := by simpa using h4
          subst this
          intro k v hv; simp [flat] at hv
        · obtain ⟨p', hp, hsp, hc⟩ := h7 h
          cases hp
          rcases hz with rfl | h0
          · exact cells_flat sub hsz hsp hc
          · omega

end Go.Ab
/- The executor is sound, 9: append, joined. -/
namespace Go.Ab

section
variable {P : Program} {n : Nat} {g : G} {β : Nat → Nat} {U : Nat → Prop} {y : Nat → Bool → Prop} {st : St} {a : Act} {w : World} {ev : Operand → D} {o : Oper}

theorem blt_tt {a b : Nat} : Nat.blt a b = true ↔ a < b := by rw [Nat.blt_eq]
theorem blt_ff {a b : Nat} : Nat.blt a b = false ↔ b ≤ a := by
  rw [← Bool.not_eq_true, Nat.blt_eq]; omega

theorem catG_get {n0 : Nat} {f f' : Nat → D} {vs us : List Value} {g : G} {sz : Nat} (hl : vs.length = n0) (h1 : ∀ i u, vs[i]? = some u → R g (f i) u ∧ u.cells.size = sz ∧ ones (f i) = true)
    (h2 : ∀ i u, us[i]? = some u → R g (f' i) u ∧ u.cells.size = sz ∧ ones (f' i) = true) : ∀ i u, (vs ++ us)[i]? = some u → R g (catG n0 f f' i) u ∧ u.cells.size = sz ∧ ones (catG n0 f f' i) = true := by
  intro i u hu
  rcases Nat.lt_or_ge i n0 with hi | hi
  · rw [List.getElem?_append_left (by omega)] at hu
    have : catG n0 f f' i = f i := by unfold catG; rw [blt_tt.2 hi]; rfl
    rw [this]; exact h1 i u hu
  · rw [List.getElem?_append_right (by omega), hl] at hu
    have : catG n0 f f' i = f' (i - n0) := by unfold catG; rw [blt_ff.2 hi]; rfl
    rw [this]; exact h2 _ u hu

/-- What append sees of its first argument. -/
structure Base (P : Program) (g : G) (w : World) (sz n0 : Nat) (f : Nat → D) (own : Own) (ba : Option Addr) (cap : Nat) (vs : List Value) : Prop where
  len : vs.length = n0
  capLe : n0 ≤ cap
  el : ∀ i u, vs[i]? = some u → R g (f i) u ∧ u.cells.size = sz ∧ ones (f i) = true
  src : Src P w sz n0 (.slice ba n0 cap) (flat vs)
  at_ : 0 < n0 → ∃ p, ba = some p ∧ p.spot = none ∧ ∀ (i : Nat) (u : Value), vs[i]? = some u → ∀ j, j < sz → g.σ ⟨p.block, p.off + i * sz + j, none⟩ = u.cells[j]?
  own : OwnOk g own n0 ba cap

theorem base_of {P : Program} {g : G} {w : World} (sub : ∀ a v, g.σ a = some v → w.cell? a = some v ∧ a.spot = none) {n0 ez sz : Nat} {f : Nat → D} {own : Own} {v : Value} (h : R g (.list n0 ez f own) v)
    (hz : ez = sz ∨ n0 = 0) : ∃ ba cap vs, v = .slice ba n0 cap ∧ Base P g w sz n0 f own ba cap vs := by
  have hs : srcD sz (.list n0 ez f own) = some (n0, f) := by
    simp only [srcD]
    cases hb : Nat.beq ez sz with
    | true => rfl
    | false =>
      rcases hz with rfl | h0
      · rw [beq_eq.2 rfl] at hb; cases hb
      · rw [beq_eq.2 h0]; rfl
  obtain ⟨ba, cap, vs0, h1, h2, h3, h4, h5, h6, h7, h8, h9⟩ := h.listOpen
  have hsz : ∀ u ∈ vs0, u.cells.size = sz := by
    rcases hz with rfl | h0
    · exact h6
    · intro u hu; have := List.length_pos_of_mem hu; omega
  have hat : 0 < n0 → ∃ p, ba = some p ∧ p.spot = none ∧ ∀ (i : Nat) (u : Value), vs0[i]? = some u → ∀ j, j < sz → g.σ ⟨p.block, p.off + i * sz + j, none⟩ = u.cells[j]? := by
    intro hp
    rcases hz with rfl | h0
    · exact h7 hp
    · omega
  refine ⟨ba, cap, vs0, h1, h4, h2, fun i u hu => ?_, ?_, hat, h8⟩
  · have hi : i < n0 := by
      rcases Nat.lt_or_ge i vs0.length with h | h
      · omega
      · rw [List.getElem?_eq_none h] at hu; cases hu
    exact ⟨(h5 i u hu).1, hsz u (List.mem_of_getElem? hu), h9 i hi⟩
  · cases ba with
    | none =>
      have : n0 = 0 := by
        rcases Nat.eq_zero_or_pos n0 with h | h
        · exact h
        · obtain ⟨p, hp, _⟩ := h7 h; cases hp
      subst this
      have : vs0 = [] := by simpa using h4
      subst this
      exact Src.nil
    | some p =>
      refine Src.slice (by rw [flat_length hsz, h4]) ?_
      rcases Nat.eq_zero_or_pos n0 with h | h
      · subst h
        have : vs0 = [] := by simpa using h4
        subst this
        intro k v hv; simp [flat] at hv
      · obtain ⟨p', hp, hsp, hc⟩ := hat h
        cases hp
        exact cells_flat sub hsz hsp hc

theorem setTok_grow {t b : Nat} {vals : Array Value} {k : Tok} (hb : ¬ U b) (l : G.le g (setTok g t b vals k)) : Grow U g (setTok g t b vals k) := by
  refine ⟨l, fun x v e => ?_⟩
  simp only [setTok] at e
  by_cases h : x.block = b
  · exact .inr (by rw [h]; exact hb)
  · rw [if_neg h] at e; exact .inl e

theorem roomG_grow {t b m : Nat} {arr : Array Value} {k : Tok} (hb : ¬ U b) (l : G.le g (roomG g t b arr k m)) : Grow U g (roomG g t b arr k m) := by
  refine ⟨l, fun x v e => ?_⟩
  by_cases h : x.block = b
  · exact .inr (by rw [h]; exact hb)
  · simp only [roomG] at e
    rw [if_neg (fun hh => h hh.1)] at e; exact .inl e

/-- A grown slice: its cells are new. -/
theorem app_grow [Lay] (r : Rel n g β U y st a w) {t u ty e : Nat} {i : TypeInfo} {z : Value} (ht : P.underlying t = some (.slice e)) (hi : P.info? e = some i) (hz0 : i.zero = some z) (hzs : z.cells.size = i.size) (hu : AppTy P u) (h1 : 0 < i.bytes)
    {n0 m cap : Nat} {f f' : Nat → D} {own : Own} {ba : Option Addr} {vs us : List Value} {x : Value} (hb : Base P g w i.size n0 f own ba cap vs) (hul : us.length = m) (hue : ∀ k q, us[k]? = some q → R g (f' k) q ∧ q.cells.size = i.size ∧ ones (f' k) = true)
    (hsrc : Src P w i.size m x (flat us)) (hg : cap < n0 + m) (hroom : (n0 + m) * i.bytes ≤ roomM) {tk nt : Nat} (htk : tk < nt) (hnt : st.h.nt ≤ nt) (hvt : st.h.vw tk = none) (hle : ∀ k0, g.τ tk = some k0 → k0.sz = i.size ∧ k0.n < n0 + m) :
    ∃ v w' g', (Builtin.append_ #[t, u] ty #[.slice ba n0 cap, x]).run P w = .ok v w' ∧ Rel n g' β U y { st with h := tokH st.h tk (n0 + m) nt } a w' ∧ Grow U g g' ∧ Kept U w w' ∧ R g' (.list (n0 + m) i.size (catG n0 f f') (.tok tk i.size)) v := by
  have hlen : n0 + m ≤ lenM := by
    have : n0 + m ≤ (n0 + m) * i.bytes := Nat.le_mul_of_pos_right _ h1
    unfold roomM at hroom; unfold lenM; omega
  have hlen2 : n0 + m ≤ 281474976710656 := by
    have : n0 + m ≤ (n0 + m) * i.bytes := Nat.le_mul_of_pos_right _ h1
    unfold roomM at hroom; omega
  have hrun := run_app_grow (P := P) (w := w) (ty := ty) ht hi hz0 hu hb.src hsrc hg hroom hlen2 h1
  have hge := grownCap_ge w (n0 + m) cap e
  generalize hgc : grownCap w (n0 + m) cap e = gc at hrun hge
  generalize hvals0 : (flat vs ++ flat us).toArray ++ Builtin.zeroCells z.cells (gc - (n0 + m)) = vals at hrun
  have hszs : ∀ q ∈ vs ++ us, q.cells.size = i.size := by
    intro q hq
    rcases List.mem_append.1 hq with h | h
    · obtain ⟨k, hk, rfl⟩ := List.getElem_of_mem h; exact (hb.el k _ (List.getElem?_eq_getElem hk)).2.1
    · obtain ⟨k, hk, rfl⟩ := List.getElem_of_mem h; exact (hue k _ (List.getElem?_eq_getElem hk)).2.1
  have hfl : (flat (vs ++ us)).length = (n0 + m) * i.size := by rw [flat_length hszs]; simp [hb.len, hul]
  have hvals : vals = (flat (vs ++ us)).toArray ++ Builtin.zeroCells z.cells (gc - (n0 + m)) := by rw [← hvals0, flat_append]
  have hvs : vals.size = gc * i.size := by
    rw [hvals]; simp only [Array.size_append, List.size_toArray, hfl, size_zeroCells, hzs]
    rw [← Nat.add_mul]; congr 1; omega
  obtain ⟨k, hk1, hk2, hk3, hk4, hk5⟩ : ∃ k : Tok, k.a = some ⟨w.heap.size, 0, none⟩ ∧ k.n = n0 + m ∧ k.cap = gc ∧ k.sz = i.size ∧ k.ty = e := ⟨⟨some ⟨w.heap.size, 0, none⟩, n0 + m, gc, i.size, e⟩, rfl, rfl, rfl, rfl, rfl⟩
  have rd := r.ext (draw_ext r.inv)
  have hd : w.drew.heap.size = w.heap.size := rfl
  obtain ⟨r1, le⟩ := rd.newTok (t := tk) (nt := nt) (vals := vals) (T := e) (k := k) hk1 (by omega) ⟨by rw [hvs, hk3, hk4]; exact Nat.le_refl _, hk5.symm⟩ htk hnt hvt (by rw [hk2, hk4]; exact hle)
  rw [hk2] at r1
  refine ⟨_, _, _, hrun, r1, setTok_grow (fun h => absurd (r.inv.ub _ h) (Nat.lt_irrefl _)) le, ?_, ?_⟩
  · have kd : Kept U w w.drew := (draw_ext r.inv).kept r.inv.ub
    exact kd.trans ((Ext.alloc rd.inv (.cells vals e (0, 0))).kept rd.inv.ub)
  · have hcat := catG_get hb.len hb.el hue
    refine R.ofList (vs := vs ++ us) (by simp [hb.len, hul]) hlen hge ⟨k, upd_same _ _ _, hk4, by omega, fun _ => ⟨hk1.symm, hk3.symm⟩⟩ (fun q u' hq => ⟨R.mono le _ _ (hcat q u' hq).1, (hcat q u' hq).2⟩) fun _ => ⟨_, rfl, rfl, fun q u' hq j hj => ?_⟩
    have hql : q < n0 + m := by
      rcases Nat.lt_or_ge q (vs ++ us).length with h | h
      · simpa [hb.len, hul] using h
      · rw [List.getElem?_eq_none h] at hq; cases hq
    have hlt : q * i.size + j < (n0 + m) * i.size := by
      have : (q + 1) * i.size ≤ (n0 + m) * i.size := Nat.mul_le_mul_right _ hql
      rw [Nat.add_mul] at this; omega
    rw [← flat_get hszs hq hj]
    simp only [setTok, Nat.zero_add, hd]
    rw [if_pos trivial, if_pos ⟨trivial, by rw [hk2, hk4]; exact hlt⟩, hvals, Array.getElem?_append_left (by simpa [hfl] using hlt)]
    simp

theorem cellsG_get {sz : Nat} (f : Nat → D) {i : Nat} (h : (cellsD (f (i / sz))).length = sz) : cellsG sz f i = (cellsD (f (i / sz))).getD (i % sz) .junk := by
  unfold cellsG
  cases hb : Nat.beq sz 1 with
  | false => rfl
  | true =>
    have := beq_eq.1 hb; subst this
    simp only [cond_true, Nat.div_one, Nat.mod_one] at h ⊢
    generalize f i = d at h ⊢
    cases d with
    | agg cs => cases cs with
      | nil => cases h
      | cons x r => rfl
    | _ => rfl

/-- A slice that grows into a new box. -/
theorem app_box [Lay] (r : Rel n g β U y st a w) {t u ty e : Nat} {i : TypeInfo} {z : Value} (ht : P.underlying t = some (.slice e)) (hi : P.info? e = some i) (hz0 : i.zero = some z) (hzs : z.cells.size = i.size) (hu : AppTy P u) (h1 : 0 < i.bytes)
    {n0 m cap : Nat} {f f' : Nat → D} {own : Own} {ba : Option Addr} {vs us : List Value} {x : Value} (hb : Base P g w i.size n0 f own ba cap vs) (hul : us.length = m) (hue : ∀ k q, us[k]? = some q → R g (f' k) q ∧ q.cells.size = i.size ∧ ones (f' k) = true)
    (hsrc : Src P w i.size m x (flat us)) (hg : cap < n0 + m) (hroom : (n0 + m) * i.bytes ≤ roomM) :
    ∃ v w' g', (Builtin.append_ #[t, u] ty #[.slice ba n0 cap, x]).run P w = .ok v w' ∧ Rel n g' β U y { st with h := { st.h with box := upd st.h.box st.h.nl (some (.arr ((n0 + m) * i.size) (cellsG i.size (catG n0 f f')))), nl := st.h.nl + 1 } } a w' ∧ Grow U g g' ∧ Kept U w w' ∧ R g' (.sl st.h.nl 0 (n0 + m)) v := by
  have hlen : n0 + m ≤ lenM := by
    have : n0 + m ≤ (n0 + m) * i.bytes := Nat.le_mul_of_pos_right _ h1
    unfold roomM at hroom; unfold lenM; omega
  have hlen2 : n0 + m ≤ 281474976710656 := by
    have : n0 + m ≤ (n0 + m) * i.bytes := Nat.le_mul_of_pos_right _ h1
    unfold roomM at hroom; omega
  have hrun := run_app_grow (P := P) (w := w) (ty := ty) ht hi hz0 hu hb.src hsrc hg hroom hlen2 h1
  have hge := grownCap_ge w (n0 + m) cap e
  generalize hgc : grownCap w (n0 + m) cap e = gc at hrun hge
  generalize hvals0 : (flat vs ++ flat us).toArray ++ Builtin.zeroCells z.cells (gc - (n0 + m)) = vals at hrun
  have hszs : ∀ q ∈ vs ++ us, q.cells.size = i.size := by
    intro q hq
    rcases List.mem_append.1 hq with h | h
    · obtain ⟨k, hk, rfl⟩ := List.getElem_of_mem h; exact (hb.el k _ (List.getElem?_eq_getElem hk)).2.1
    · obtain ⟨k, hk, rfl⟩ := List.getElem_of_mem h; exact (hue k _ (List.getElem?_eq_getElem hk)).2.1
  have hfl : (flat (vs ++ us)).length = (n0 + m) * i.size := by rw [flat_length hszs]; simp [hb.len, hul]
  have hvals : vals = (flat (vs ++ us)).toArray ++ Builtin.zeroCells z.cells (gc - (n0 + m)) := by rw [← hvals0, flat_append]
  have rd := r.ext (draw_ext r.inv)
  have hd : w.drew.heap.size = w.heap.size := rfl
  have hcat := catG_get hb.len hb.el hue
  have hro : RowOf g e vals (.arr ((n0 + m) * i.size) (cellsG i.size (catG n0 f f'))) := by
    refine ⟨by rw [hvals]; simp [hfl], fun j hj => ?_⟩
    have hpos : 0 < i.size := by
      rcases Nat.eq_zero_or_pos i.size with h | h
      · rw [h] at hj; omega
      · exact h
    have hq : j / i.size < n0 + m := Nat.div_lt_of_lt_mul (by rw [Nat.mul_comm]; exact hj)
    have hm : j % i.size < i.size := Nat.mod_lt _ hpos
    have hlen3 : (vs ++ us).length = n0 + m := by simp [hb.len, hul]
    have hel := List.getElem?_eq_getElem (l := vs ++ us) (i := j / i.size) (by omega)
    obtain ⟨h3, h4, h5⟩ := hcat _ _ hel
    have hcl := h3.cells.length
    have hcl' : (cellsD (catG n0 f f' (j / i.size))).length = i.size := by simp only [Array.length_toList] at hcl; omega
    have hdl := List.getElem?_eq_getElem (l := cellsD (catG n0 f f' (j / i.size))) (i := j % i.size) (by omega)
    obtain ⟨v, hv, hr⟩ := h3.cells.get _ _ hdl
    refine ⟨v, ?_, ?_⟩
    · have hf := flat_get hszs hel hm
      have hjj : j / i.size * i.size + j % i.size = j := by have := Nat.div_add_mod j i.size; rw [Nat.mul_comm] at this; omega
      rw [hjj] at hf
      rw [hvals, Array.getElem?_append_left (by simpa [hfl] using hj)]
      rw [List.getElem?_toArray, hf, ← Array.getElem?_toList]; exact hv
    · rw [cellsG_get _ hcl']
      simp only [List.getD, hdl, Option.getD_some]; exact hr
  have r1 := rd.newBox (T := e) hro
  have le := addBox_le (b := w.heap.size) (r.inv.frL st.h.nl (Nat.le_refl _))
  refine ⟨_, _, addBox g st.h.nl w.heap.size, hrun, r1, Grow.sameσ le rfl, ?_, ?_⟩
  · have kd : Kept U w w.drew := (draw_ext r.inv).kept r.inv.ub
    exact kd.trans ((Ext.alloc rd.inv (.cells vals e (0, 0))).kept rd.inv.ub)
  · simp only [R]
    exact ⟨_, upd_same _ _ _, _, _, rfl, hge, hlen, fun _ => rfl⟩

/-- A slice that grows into a new array of the frame's own. -/
theorem app_newvec [Lay] (r : Rel n g β U y st a w) {t u ty e : Nat} {i : TypeInfo} {z : Value} (ht : P.underlying t = some (.slice e)) (hi : P.info? e = some i) (hz0 : i.zero = some z) (hzs : z.cells.size = i.size) (hu : AppTy P u) (h1 : 0 < i.bytes)
    {n0 m cap : Nat} {f f' : Nat → D} {ba : Option Addr} {vs us : List Value} {x : Value} (hbl : vs.length = n0) (hbe : ∀ k q, vs[k]? = some q → R g (f k) q ∧ q.cells.size = i.size ∧ ones (f k) = true) (hbs : Src P w i.size n0 (.slice ba n0 cap) (flat vs))
    (hul : us.length = m) (hue : ∀ k q, us[k]? = some q → R g (f' k) q ∧ q.cells.size = i.size ∧ ones (f' k) = true)
    (hsrc : Src P w i.size m x (flat us)) (hg : cap < n0 + m) (hroom : (n0 + m) * i.bytes ≤ roomM) {tk nt : Nat} (htk : tk < nt) (hnt : st.h.nt ≤ nt) (hle : ∀ k0, g.τ tk = some k0 → k0.sz = i.size ∧ k0.n < n0 + m) :
    ∃ v w' g', (Builtin.append_ #[t, u] ty #[.slice ba n0 cap, x]).run P w = .ok v w' ∧ Rel n g' β U y { st with h := vecH st.h tk (n0 + m) nt (catG n0 f f') } a w' ∧ Grow U g g' ∧ Kept U w w' ∧ R g' (.vec tk (n0 + m) i.size) v ∧ ∃ k, g'.τ tk = some k ∧ k.ty = e := by
  have hlen : n0 + m ≤ lenM := by
    have : n0 + m ≤ (n0 + m) * i.bytes := Nat.le_mul_of_pos_right _ h1
    unfold roomM at hroom; unfold lenM; omega
  have hlen2 : n0 + m ≤ 281474976710656 := by
    have : n0 + m ≤ (n0 + m) * i.bytes := Nat.le_mul_of_pos_right _ h1
    unfold roomM at hroom; omega
  have hrun := run_app_grow (P := P) (w := w) (ty := ty) ht hi hz0 hu hbs hsrc hg hroom hlen2 h1
  have hge := grownCap_ge w (n0 + m) cap e
  generalize hgc : grownCap w (n0 + m) cap e = gc at hrun hge
  generalize hvals0 : (flat vs ++ flat us).toArray ++ Builtin.zeroCells z.cells (gc - (n0 + m)) = vals at hrun
  have hszs : ∀ q ∈ vs ++ us, q.cells.size = i.size := by
    intro q hq
    rcases List.mem_append.1 hq with h | h
    · obtain ⟨k, hk, rfl⟩ := List.getElem_of_mem h; exact (hbe k _ (List.getElem?_eq_getElem hk)).2.1
    · obtain ⟨k, hk, rfl⟩ := List.getElem_of_mem h; exact (hue k _ (List.getElem?_eq_getElem hk)).2.1
  have hfl : (flat (vs ++ us)).length = (n0 + m) * i.size := by rw [flat_length hszs]; simp [hbl, hul]
  have hvals : vals = (flat (vs ++ us)).toArray ++ Builtin.zeroCells z.cells (gc - (n0 + m)) := by rw [← hvals0, flat_append]
  have hvs : vals.size = gc * i.size := by
    rw [hvals]; simp only [Array.size_append, List.size_toArray, hfl, size_zeroCells, hzs]
    rw [← Nat.add_mul]; congr 1; omega
  have hd : w.drew.heap.size = w.heap.size := rfl
  have hdd : w.drew.heap = w.heap := rfl
  have hcat := catG_get hbl hbe hue
  have r1 := Rel.vecTo r (t := tk) (nt := nt) (k := ⟨some ⟨w.heap.size, 0, none⟩, n0 + m, gc, i.size, e⟩) (f := catG n0 f f') (w' := w.drew.alloc (.cells vals e (0, 0))) htk hnt
    (fun k0 h => by obtain ⟨h2, h3⟩ := hle k0 h; exact ⟨h2.symm, by simp only; omega, fun h => by simp only at h; omega⟩)
    (DefsKept.alloc w.drew _)
    (by have := (below_alloc w.drew (.cells vals e (0, 0))).size; rw [hd] at this; exact this)
    (fun c hc _ => by rw [heap_alloc_old _ _ (by rw [hd]; exact hc), hdd])
    (fun _ => ⟨w.heap.size, e, vals, rfl, fun h => absurd (r.inv.ub _ h) (Nat.lt_irrefl _), RowB.of (by rw [← hd]; exact heap_alloc_new _ _), ⟨by simp only; omega, rfl⟩, hge, fun q hq => ?_, r.freeNew tk (Nat.le_refl _)⟩)
  · refine ⟨_, _, _, hrun, r1, Grow.sameσ (vecG_le fun k0 h => by obtain ⟨h2, h3⟩ := hle k0 h; exact ⟨h2.symm, by simp only; omega, fun h => by simp only at h; omega⟩) rfl, ?_, ?_⟩
    · have kd : Kept U w w.drew := (draw_ext r.inv).kept r.inv.ub
      have rd := r.ext (draw_ext r.inv)
      exact kd.trans ((Ext.alloc rd.inv (.cells vals e (0, 0))).kept rd.inv.ub)
    · refine ⟨?_, _, upd_same _ _ _, rfl⟩
      simp only [R]
      exact ⟨hlen, _, _, rfl, hge, _, upd_same _ _ _, rfl, Nat.le_refl _, fun _ => ⟨rfl, rfl⟩⟩
  · simp only at hq ⊢
    have hel := List.getElem?_eq_getElem (l := vs ++ us) (i := q) (by simp [hbl, hul]; omega)
    obtain ⟨h3, h4, h5⟩ := hcat _ _ hel
    refine ⟨_, h3, ⟨h4, h5⟩, fun j hj => ?_⟩
    have hlt : q * i.size + j < (n0 + m) * i.size := by
      have : (q + 1) * i.size ≤ (n0 + m) * i.size := Nat.mul_le_mul_right _ hq
      rw [Nat.add_mul] at this; omega
    rw [← flat_get hszs hel hj, hvals, Array.getElem?_append_left (by simpa [hfl] using hlt)]
    simp

/-- An array of the frame's own, its elements. -/
theorem vec_open [Lay] {h : Heap} (i : Inv g U h w) {t m sz : Nat} {f : Nat → D} {v : Value} (hv : h.vw t = some f) (hn : h.hw t = some m) (hr : R g (.vec t m sz) v) :
    ∃ (k : Tok) (vs : List Value), v = .slice k.a m k.cap ∧ m ≤ k.cap ∧ m ≤ lenM ∧ g.τ t = some k ∧ k.sz = sz ∧ k.n = m ∧ vs.length = m ∧ (∀ q u, vs[q]? = some u → R g (f q) u ∧ u.cells.size = sz ∧ ones (f q) = true) ∧ Src P w sz m v (flat vs) ∧
      (0 < k.cap → TokAt g w U k (some f)) := by
  simp only [R] at hr
  obtain ⟨h1, ba, cap, rfl, h2, k, h3, h4, h5, h6⟩ := hr
  obtain ⟨k', e1, e2, e3⟩ := i.tok t m hn
  rw [h3] at e1; cases e1
  obtain ⟨h7, h8⟩ := h6 e2.symm
  subst h7; subst h8; subst e2; subst h4
  rw [hv] at e3
  rcases Nat.eq_zero_or_pos k.n with h0 | h0
  · refine ⟨k, [], by rw [h0], by omega, by omega, h3, rfl, rfl, by simp [h0], fun q u hq => (by cases hq), ?_, e3⟩
    rw [h0]
    cases hka : k.a with
    | none => exact Src.nil
    | some p => exact Src.slice (by simp [flat]) (fun q v hq => by simp [flat] at hq)
  · obtain ⟨b, c1, c2, T, vals, c3, c4, c5, c6⟩ := e3 (show 0 < k.cap by omega)
    obtain ⟨_, c7⟩ := c6 f rfl
    have hex : ∀ q : Fin k.n, ∃ u, R g (f q) u ∧ (u.cells.size = k.sz ∧ ones (f q) = true) ∧ ∀ j, j < k.sz → vals[q.1 * k.sz + j]? = u.cells[j]? := fun q => c7 q q.2
    let vs := List.ofFn fun q : Fin k.n => (hex q).choose
    have hvl : vs.length = k.n := by simp [vs]
    have hvg : ∀ q u, vs[q]? = some u → q < k.n ∧ R g (f q) u ∧ (u.cells.size = k.sz ∧ ones (f q) = true) ∧ ∀ j, j < k.sz → vals[q * k.sz + j]? = u.cells[j]? := by
      intro q u hq
      have hql : q < k.n := by
        rcases Nat.lt_or_ge q k.n with h | h
        · exact h
        · rw [List.getElem?_eq_none (by omega)] at hq; cases hq
      have := (hex ⟨q, hql⟩).choose_spec
      rw [List.getElem?_eq_getElem (by omega)] at hq
      simp only [vs, List.getElem_ofFn, Option.some.injEq] at hq
      rw [hq] at this
      exact ⟨hql, this⟩
    have hszs : ∀ u ∈ vs, u.cells.size = k.sz := by
      intro u hu
      obtain ⟨q, hq, rfl⟩ := List.getElem_of_mem hu
      exact (hvg q _ (List.getElem?_eq_getElem hq)).2.2.1.1
    refine ⟨k, vs, rfl, by omega, h1, h3, rfl, rfl, hvl, fun q u hq => ⟨(hvg q u hq).2.1, (hvg q u hq).2.2.1⟩, ?_, e3⟩
    rw [c1]
    refine Src.slice (by rw [flat_length hszs, hvl]) fun p v hp => ?_
    have hpl : p < k.n * k.sz := by
      rcases Nat.lt_or_ge p (flat vs).length with h | h
      · rw [flat_length hszs, hvl] at h; exact h
      · rw [List.getElem?_eq_none h] at hp; cases hp
    have hpos : 0 < k.sz := by
      rcases Nat.eq_zero_or_pos k.sz with h | h
      · rw [h] at hpl; omega
      · exact h
    have hq : p / k.sz < k.n := Nat.div_lt_of_lt_mul (by rw [Nat.mul_comm]; exact hpl)
    have hm := Nat.mod_lt p hpos
    have hel := List.getElem?_eq_getElem (l := vs) (i := p / k.sz) (by omega)
    have hf := flat_get hszs hel hm
    have hjj : p / k.sz * k.sz + p % k.sz = p := by have := Nat.div_add_mod p k.sz; rw [Nat.mul_comm] at this; omega
    rw [hjj, hp] at hf
    have h9 := (hvg _ _ hel).2.2.2 _ hm
    rw [hjj, ← hf] at h9
    rw [add_none, c3.cell, Nat.zero_add]
    simpa using h9

theorem bv_vec {g : G} {e t n : Nat} {v : Value} (h : R g (.bv e t n) v) : R g (.vec t n 1) v := by
  simp only [R] at h ⊢
  obtain ⟨x1, x2, x3, x4, x5, k, x6, x7, x8, x9⟩ := h
  exact ⟨x1, x2, x3, x4, x5, k, x6, x7, x8, fun h => ⟨(x9 h).1, (x9 h).2.1⟩⟩

theorem app_vecB [Lay] (r : Rel n g β U y st a w) {t u ty e b tk n0 ez m : Nat} {zd : D} {f f' : Nat → D} {vx vz : Value} {z : D} (hu : AppTy P u) (hx : R g (.vec tk n0 ez) vx) (hz : R g z vz)
    (ht : P.underlying t = some (.slice e)) (hsz : szOf P e = some ez) (hby : bytesOf P e = some (b + 1)) (hze : zeroD P e = some zd) (hc1 : isD zd = true) (hc2 : (cellsD zd).length = ez) (hsr : srcD ez z = some (m, f')) (hv : st.h.vw tk = some f) :
    st.h.hw tk = some n0 → (n0 + m) * (b + 1) ≤ roomM → ∃ v w' g', (Builtin.append_ #[t, u] ty #[vx, vz]).run P w = .ok v w' ∧ Rel n g' β U y { st with h := { st.h with hw := upd st.h.hw tk (some (n0 + m)), vw := upd st.h.vw tk (some (catG n0 f f')) } } a w' ∧ Grow U g g' ∧ Kept U w w' ∧ R g' (.vec tk (n0 + m) ez) v ∧
      ∀ k', g'.τ tk = some k' → k'.ty = e ∨ ∃ k, g.τ tk = some k ∧ k.n = n0 ∧ k'.ty = k.ty := by
  obtain ⟨i, hi, hib⟩ := bytesOf_sound hby
  have his : i.size = ez := by simp only [szOf, hi, Option.map_some, Option.some.injEq] at hsz; exact hsz
  have hizs : ∃ zv, i.zero = some zv ∧ zv.cells.size = i.size := by
    obtain ⟨zv, h1, h2⟩ := zeroD_sound hze hc1 w
    have hzz : i.zero = some zv := by
      simp only [zeroD, hi, Option.bind_some] at hze
      cases hzi : i.zero with
      | none => rw [hzi] at hze; cases hze
      | some z' =>
        simp [zeroValue, typeInfo, hi, hzi] at h1
        rw [h1]
    refine ⟨zv, hzz, ?_⟩
    have := (h2 g).cells.length
    simp at this; omega
  obtain ⟨zv, hz1, hz2⟩ := hizs
  subst his
  have h1 : 0 < i.bytes := by omega
  intro hw hp
  obtain ⟨k, vs, rfl, k1, k2, k3, k4, k5, k6, k7, k8, k9⟩ := vec_open (P := P) r.inv hv hw hx
  obtain ⟨us, hul, hue, hsrc⟩ := srcD_sound (P := P) (w := w) r.inv.sub hsr hz
  have hlenM : n0 + m ≤ lenM := by
    have : n0 + m ≤ (n0 + m) * (b + 1) := Nat.le_mul_of_pos_right _ (by omega)
    unfold roomM at hp; unfold lenM; omega
  have hnt := r.ntLt k3
  have hcatl : ∀ q, q < n0 → catG n0 f f' q = f q := fun q hq => by simp [catG, blt_tt.2 hq]
  rcases Nat.eq_zero_or_pos m with hm | hm
  · subst hm
    have hus : us = [] := by simpa using hul
    subst hus
    have h2 : (Builtin.append_ #[t, u] ty #[.slice k.a n0 k.cap, vz]).run P w = .ok (.slice k.a (n0 + 0) k.cap) w := by
      refine run_app_room ht hi hu hsrc (by omega) ?_
      cases k.a with
      | none => rfl
      | some p => simp [flat, storeCells]
    have r1 := Rel.vecTo r (t := tk) (nt := st.h.nt) (k := k) (f := catG n0 f f') (w' := w) hnt (Nat.le_refl _) (fun k0 h => by rw [k3] at h; cases h; exact ⟨rfl, Nat.le_refl _, fun _ => rfl⟩) (fun _ h => h) (Nat.le_refl _) (fun _ _ _ => rfl) (fun hcap => by
      obtain ⟨bl, c1, c2, T, vals, c3, c4, c5, c6⟩ := k9 hcap
      obtain ⟨c7, c8⟩ := c6 f rfl
      exact ⟨bl, T, vals, c1, c2, c3, c4, c7, fun q hq => by rw [hcatl q (by omega)]; exact c8 q hq, r.freeOld hv hw k3 hcap c1⟩)
    have hgg : vecG g tk k = g := by simp only [vecG, upd_idem _ k3]
    rw [hgg] at r1
    refine ⟨_, _, _, h2, ?_, Grow.refl U g, Kept.refl _ _, ?_, fun k' hk' => .inr ⟨k, k3, k5, by rw [k3] at hk'; cases hk'; rfl⟩⟩
    · have : vecH st.h tk k.n st.h.nt (catG n0 f f') = { st.h with hw := upd st.h.hw tk (some (n0 + 0)), vw := upd st.h.vw tk (some (catG n0 f f')) } := by rw [k5]; rfl
      rw [← this]; exact r1
    · simp only [R]
      exact ⟨by omega, _, _, rfl, by omega, k, k3, k4, by omega, fun _ => ⟨rfl, rfl⟩⟩
  · rcases Nat.lt_or_ge k.cap (n0 + m) with hg | hg
    · obtain ⟨v, w', g', h2, h3, h4, h5, h6, k1', h7, h8⟩ := app_newvec (ty := ty) r ht hi hz1 hz2 hu h1 k6 k7 k8 hul hue hsrc hg (by rw [hib]; exact hp) (tk := tk) (nt := st.h.nt) hnt (Nat.le_refl _)
        (fun k0 h => by rw [k3] at h; cases h; exact ⟨k4, by omega⟩)
      exact ⟨v, w', g', h2, h3, h4, h5, h6, fun k' hk' => .inl (by rw [h7] at hk'; cases hk'; exact h8)⟩
    · have hcap : 0 < k.cap := by omega
      obtain ⟨bl, c1, c2, T, vals, c3, c4, c5, c6⟩ := k9 hcap
      obtain ⟨c7, c8⟩ := c6 f rfl
      have husz : ∀ q ∈ us, q.cells.size = k.sz := by
        intro q hq
        obtain ⟨j, hj, rfl⟩ := List.getElem_of_mem hq
        rw [k4]; exact (hue j _ (List.getElem?_eq_getElem hj)).2.1
      have hlen : (flat us).length = m * k.sz := by rw [flat_length husz, hul]
      have hcapz : (n0 + m) * k.sz ≤ vals.size := Nat.le_trans (Nat.mul_le_mul_right _ hg) c4.1
      have hadd : (n0 + m) * k.sz = n0 * k.sz + (flat us).length := by rw [Nat.add_mul, hlen]
      have hst := c3.store (P := P) (n0 * k.sz) (flat us) 0 (by omega) (flat_ones (get := f') fun q u' hq => ⟨(hue q u' hq).1, (hue q u' hq).2.2⟩)
      simp only [Nat.add_zero] at hst
      have h2 : (Builtin.append_ #[t, u] ty #[.slice k.a n0 k.cap, vz]).run P w = .ok (.slice k.a (n0 + m) k.cap) _ :=
        run_app_room (w' := w.setRow bl (vals.toList.take (n0 * k.sz) ++ flat us ++ vals.toList.drop (n0 * k.sz + (flat us).length)).toArray) ht hi hu hsrc hg (by
          rw [c1]; simp only [add_none, Nat.zero_add]; rw [← k4]; exact hst)
      have tn := turn_setRow w bl (vals.toList.take (n0 * k.sz) ++ flat us ++ vals.toList.drop (n0 * k.sz + (flat us).length)).toArray
      have har : ∀ p, (vals.toList.take (n0 * k.sz) ++ flat us ++ vals.toList.drop (n0 * k.sz + (flat us).length)).toArray[p]? = if p < n0 * k.sz then vals[p]? else if p < n0 * k.sz + (flat us).length then (flat us)[p - n0 * k.sz]? else vals[p]? := fun p => by
        have := get_splice vals.toList (flat us) (n0 * k.sz) p (by simp; omega)
        simpa using this
      have hle : ∀ k0, g.τ tk = some k0 → k.sz = k0.sz ∧ k0.n ≤ n0 + m ∧ (k0.n = n0 + m → ({ k with n := n0 + m } : Tok) = k0) := fun k0 h => by
        rw [k3] at h; cases h; exact ⟨rfl, by omega, fun h => by omega⟩
      have r1 := Rel.vecTo r (t := tk) (nt := st.h.nt) (k := { k with n := n0 + m }) (f := catG n0 f f') hnt (Nat.le_refl _) hle tn.defs
        (by rw [tn.size]; exact Nat.le_refl _) (fun c hc hcb => tn.other c (hcb bl hcap c1)) (fun _ => ⟨bl, T, _, c1, c2, c3.setRow _ (by have := c4.1; simp only [List.size_toArray, List.length_append, List.length_take, List.length_drop, Array.length_toList]; omega), ⟨by
          have := c4.1; simp only [List.size_toArray, List.length_append, List.length_take, List.length_drop, Array.length_toList]; omega, c4.2⟩, hg, fun q hq => ?_, r.freeOld hv hw k3 hcap c1⟩)
      · refine ⟨_, _, _, h2, r1, Grow.sameσ (vecG_le hle) rfl, tn.kept c2, ?_, fun k' hk' => .inr ⟨k, k3, k5, by simp only [vecG, upd_same, Option.some.injEq] at hk'; rw [← hk']⟩⟩
        simp only [R]
        exact ⟨hlenM, _, _, rfl, hg, _, upd_same _ _ _, k4, Nat.le_refl _, fun _ => ⟨rfl, rfl⟩⟩
      · simp only at hq ⊢
        rcases Nat.lt_or_ge q n0 with hq1 | hq1
        · rw [hcatl q hq1]
          obtain ⟨u', d1, d2, d3⟩ := c8 q (by omega)
          refine ⟨u', d1, d2, fun j hj => ?_⟩
          have : (q + 1) * k.sz ≤ n0 * k.sz := Nat.mul_le_mul_right _ hq1
          rw [Nat.add_mul] at this
          rw [har, if_pos (by omega)]
          exact d3 j hj
        · have hc : catG n0 f f' q = f' (q - n0) := by simp [catG, blt_ff.2 hq1]
          rw [hc]
          have hel := List.getElem?_eq_getElem (l := us) (i := q - n0) (by omega)
          obtain ⟨d1, d2, d3⟩ := hue _ _ hel
          refine ⟨_, d1, ⟨by rw [k4]; exact d2, d3⟩, fun j hj => ?_⟩
          have hqe : q * k.sz = n0 * k.sz + (q - n0) * k.sz := by rw [← Nat.add_mul]; congr 1; omega
          have hlt : (q - n0) * k.sz + j < (flat us).length := by
            have : (q - n0 + 1) * k.sz ≤ m * k.sz := Nat.mul_le_mul_right _ (by omega)
            rw [Nat.add_mul] at this; omega
          rw [har, if_neg (by omega), if_pos (by omega), ← flat_get husz hel hj]
          congr 1; omega

theorem app_ok [Lay] (r : Rel n g β U y st a w) {t u ty : Nat} {x z : D} {vx vz : Value} (hu : AppTy P u) (hx : R g x vx) (hz : R g z vz)
    (hrun : ∀ v w', (Builtin.append_ #[t, u] ty #[vx, vz]).run P w = .ok v w' → (execOp a.eval o).run P w = .ok (.value v) w') {bx vx : Bool} : ResOk P n g β U y st a w o (appD P st bx vx t x z) := by
  unfold appD
  split
  · rename_i e ht
    split
    · rename_i sz b zd hsz hby hze
      cases hc : (isD zd && Nat.beq (cellsD zd).length sz) with
      | false => trivial
      | true =>
        simp only [Bool.and_eq_true] at hc
        obtain ⟨hc1, hc2⟩ := hc
        have hc2 := beq_eq.1 hc2
        simp only [cond_true]
        split
        · rename_i n0 ez f own m f' hsr
          cases hc3 : (bif Nat.beq ez sz then true else Nat.beq n0 0) with
          | false => trivial
          | true =>
            simp only [cond_true]
            have hez : ez = sz ∨ n0 = 0 := by
              cases hb : Nat.beq ez sz with
              | true => exact .inl (beq_eq.1 hb)
              | false => rw [hb] at hc3; exact .inr (beq_eq.1 hc3)
            obtain ⟨i, hi, hib⟩ := bytesOf_sound hby
            have his : i.size = sz := by simp only [szOf, hi, Option.map_some, Option.some.injEq] at hsz; exact hsz
            have hizs : ∃ zv, i.zero = some zv ∧ zv.cells.size = i.size := by
              obtain ⟨zv, h1, h2⟩ := zeroD_sound hze hc1 w
              have hzz : i.zero = some zv := by
                simp only [zeroD, hi, Option.bind_some] at hze
                cases hzi : i.zero with
                | none => rw [hzi] at hze; cases hze
                | some z' =>
                  simp [zeroValue, typeInfo, hi, hzi] at h1
                  rw [h1]
              refine ⟨zv, hzz, ?_⟩
              have := (h2 g).cells.length
              simp at this; omega
            obtain ⟨zv, hz1, hz2⟩ := hizs
            subst his
            have h1 : 0 < i.bytes := by omega
            obtain ⟨ba, cap, vs, rfl, hb⟩ := base_of (P := P) (w := w) r.inv.sub hx hez
            obtain ⟨us, hul, hue, hsrc⟩ := srcD_sound (P := P) (w := w) r.inv.sub hsr hz
            have hlenOf : (n0 + m) * (b + 1) ≤ roomM → n0 + m ≤ lenM := by
              intro hr
              have : n0 + m ≤ (n0 + m) * (b + 1) := Nat.le_mul_of_pos_right _ (by omega)
              unfold roomM at hr; unfold lenM; omega
            have hidle : m = 0 → ∃ w', (Builtin.append_ #[t, u] ty #[.slice ba n0 cap, vz]).run P w = .ok (.slice ba (n0 + m) cap) w' ∧ w' = w := by
              intro hm
              subst hm
              have : us = [] := by simpa using hul
              subst this
              refine ⟨w, run_app_room ht hi hu hsrc (by have := hb.capLe; omega) ?_, rfl⟩
              cases ba with
              | none => rfl
              | some p => simp [flat, storeCells]
            split
            · trivial
            · trivial
            · -- a slice whose capacity is its length
              have hcap : cap = n0 := hb.own
              cases vx with
              | true =>
                intro hp
                rcases Nat.eq_zero_or_pos m with hm | hm
                · obtain ⟨w', h2, rfl⟩ := hidle hm
                  have hn0 : n0 = 0 := by omega
                  have r1 := Rel.vecTo r (t := st.h.nt) (nt := st.h.nt + 1) (k := ⟨ba, n0 + m, cap, i.size, 0⟩) (f := catG n0 f f') (w' := w') (by omega) (by omega) (fun k0 h => by rw [r.inv.frT _ (Nat.le_refl _)] at h; cases h) (fun _ h => h) (Nat.le_refl _) (fun _ _ _ => rfl) (fun h => by simp only at h; omega)
                  refine ⟨_, _, _, .inl (hrun _ _ h2), r1, Grow.sameσ (vecG_le fun k0 h => by rw [r.inv.frT _ (Nat.le_refl _)] at h; cases h) rfl, Kept.refl _ _, RS0.ofR ?_, rfl⟩
                  simp only [R]
                  exact ⟨by unfold lenM; omega, ba, cap, rfl, by omega, _, upd_same _ _ _, rfl, Nat.le_refl _, fun _ => ⟨rfl, rfl⟩⟩
                · obtain ⟨v, w', g', h2, h3, h4, h5, h6, _⟩ := app_newvec (ty := ty) r ht hi hz1 hz2 hu h1 hb.len hb.el hb.src hul hue hsrc (by omega) (by rw [hib]; exact hp.2) (tk := st.h.nt) (nt := st.h.nt + 1) (by omega) (by omega)
                    (fun k0 h => by rw [r.inv.frT _ (Nat.le_refl _)] at h; cases h)
                  exact ⟨v, w', g', .inl (hrun _ _ h2), h3, h4, h5, RS0.ofR h6, rfl⟩
              | false =>
              cases bx with
              | true =>
                intro hp
                obtain ⟨v, w', g', h2, h3, h4, h5, h6⟩ := app_box (ty := ty) r ht hi hz1 hz2 hu h1 hb hul hue hsrc (by omega) (by rw [hib]; exact hp.2)
                exact ⟨v, w', g', .inl (hrun _ _ h2), h3, h4, h5, RS0.ofR h6, rfl⟩
              | false =>
              intro hp
              rcases Nat.eq_zero_or_pos m with hm | hm
              · obtain ⟨w', h2, rfl⟩ := hidle hm
                obtain ⟨r1, le⟩ := r.idleTok (t := st.h.nt) (k := ⟨ba, n0 + m, cap, i.size, 0⟩) (by simp only; omega) rfl
                refine ⟨_, _, _, .inl (hrun _ _ h2), r1, Grow.sameσ le rfl, Kept.refl _ _, ?_, rfl⟩
                subst hm
                have hus : us = [] := by simpa using hul
                refine RS0.ofR (R.ofList (vs := vs ++ us) (by simp [hb.len, hul]) (hlenOf hp) (by omega) ⟨_, upd_same _ _ _, rfl, Nat.le_refl _, fun _ => ⟨rfl, rfl⟩⟩ (fun q u' hq => ?_) fun h0 => ?_)
                · have := catG_get hb.len hb.el hue q u' hq
                  exact ⟨R.mono le _ _ this.1, this.2⟩
                · obtain ⟨p, e1, e2, e3⟩ := hb.at_ (by omega)
                  exact ⟨p, e1, e2, fun q u' hq => e3 q u' (by simpa [hus] using hq)⟩
              · obtain ⟨v, w', g', h2, h3, h4, h5, h6⟩ := app_grow (ty := ty) r ht hi hz1 hz2 hu h1 hb hul hue hsrc (by omega) (by rw [hib]; exact hp) (tk := st.h.nt) (nt := st.h.nt + 1) (by omega) (by omega) (r.inv.frV _ (Nat.le_refl _))
                  (fun k0 h => by rw [r.inv.frT _ (Nat.le_refl _)] at h; cases h)
                exact ⟨v, w', g', .inl (hrun _ _ h2), h3, h4, h5, RS0.ofR h6, rfl⟩
            · -- one with an append right
              rename_i tk tz
              split
              · trivial
              rename_i hvt
              cases htz : Nat.beq i.size tz with
              | false => trivial
              | true =>
                have := beq_eq.1 htz; subst this
                simp only [cond_true]
                intro ⟨hw, hp⟩
                obtain ⟨k, hk, hks, hkn, hkeq⟩ := hb.own
                obtain ⟨k', hk', hkn', hroom⟩ := r.inv.tok tk n0 hw
                rw [hk] at hk'; cases hk'
                obtain ⟨hka, hkc⟩ := hkeq hkn'.symm
                have hnt : tk < st.h.nt := by
                  rcases Nat.lt_or_ge tk st.h.nt with h | h
                  · exact h
                  · rw [r.inv.frT tk h] at hk; cases hk
                rcases Nat.eq_zero_or_pos m with hm | hm
                · obtain ⟨w', h2, rfl⟩ := hidle hm
                  subst hm
                  have hus : us = [] := by simpa using hul
                  have hst : ({ st with h := { st.h with hw := upd st.h.hw tk (some (n0 + 0)) } } : St) = st := by
                    have : upd st.h.hw tk (some (n0 + 0)) = st.h.hw := by
                      funext q
                      by_cases hq : q = tk
                      · subst hq; rw [upd_same, hw]; rfl
                      · rw [upd_other _ _ hq]
                    rw [this]
                  rw [hst]
                  refine ⟨_, _, _, .inl (hrun _ _ h2), r, Grow.refl U g, Kept.refl _ _, ?_, rfl⟩
                  refine RS0.ofR (R.ofList (vs := vs ++ us) (by simp [hb.len, hul]) (hlenOf hp) (by have := hb.capLe; omega) ⟨k, hk, hks, by omega, fun _ => ⟨hka, hkc⟩⟩ (fun q u' hq => ?_) fun h0 => ?_)
                  · exact catG_get hb.len hb.el hue q u' hq
                  · obtain ⟨p, e1, e2, e3⟩ := hb.at_ (by omega)
                    exact ⟨p, e1, e2, fun q u' hq => e3 q u' (by simpa [hus] using hq)⟩
                · rcases Nat.lt_or_ge cap (n0 + m) with hg | hg
                  · obtain ⟨v, w', g', h2, h3, h4, h5, h6⟩ := app_grow (ty := ty) r ht hi hz1 hz2 hu h1 hb hul hue hsrc hg (by rw [hib]; exact hp) (tk := tk) (nt := st.h.nt) hnt (Nat.le_refl _) hvt
                      (fun k0 h => by rw [hk] at h; cases h; exact ⟨hks, by omega⟩)
                    exact ⟨v, w', g', .inl (hrun _ _ h2), h3, h4, h5, RS0.ofR h6, rfl⟩
                  · rw [hvt] at hroom
                    obtain ⟨bl, e1, e2, T, vals, e3, e4, e5, _⟩ := hroom (show k.n < k.cap by omega)
                    subst hkn'
                    have e5 : ∀ j, k.n * k.sz ≤ j → g.σ ⟨bl, j, none⟩ = none := e5
                    have hlen : (flat us).length = m * k.sz := by
                      rw [flat_length (sz := k.sz) (fun q hq => ?_), hul]
                      obtain ⟨j, hj, rfl⟩ := List.getElem_of_mem hq
                      rw [hks]; exact (hue j _ (List.getElem?_eq_getElem hj)).2.1
                    obtain ⟨r1, le, kp⟩ := r.roomTok (news := flat us) (m := m) hw hvt hk e1 e3 e4.2 e4.1 e5 hlen hm (by omega) e2
                    have hcapz : (k.n + m) * k.sz ≤ vals.size := Nat.le_trans (Nat.mul_le_mul_right _ (by omega)) e4.1
                    have hadd : (k.n + m) * k.sz = k.n * k.sz + (flat us).length := by rw [Nat.add_mul, hlen]
                    have hst := e3.store (P := P) (k.n * k.sz) (flat us) 0 (by omega) (flat_ones (get := f') fun q u' hq => ⟨(hue q u' hq).1, (hue q u' hq).2.2⟩)
                    simp only [Nat.add_zero] at hst
                    have hba : ba = some ⟨bl, 0, none⟩ := by rw [hka, e1]
                    have h2 : (Builtin.append_ #[t, u] ty #[.slice ba k.n cap, vz]).run P w = .ok (.slice ba (k.n + m) cap) _ :=
                      run_app_room (w' := w.setRow bl (vals.toList.take (k.n * k.sz) ++ flat us ++ vals.toList.drop (k.n * k.sz + (flat us).length)).toArray) ht hi hu hsrc hg (by
                        rw [hba]; simp only [add_none, Nat.zero_add]; rw [← hks]; exact hst)
                    refine ⟨_, _, _, .inl (hrun _ _ h2), r1, roomG_grow e2 le, kp, ?_, rfl⟩
                    refine RS0.ofR (R.ofList (vs := vs ++ us) (by simp [hb.len, hul]) (hlenOf hp) hg ⟨{ k with n := k.n + m }, upd_same _ _ _, hks, Nat.le_refl _, fun _ => ⟨hka, hkc⟩⟩ (fun q u' hq => ?_) fun h0 => ?_)
                    · have := catG_get hb.len hb.el hue q u' hq
                      exact ⟨R.mono le _ _ this.1, this.2⟩
                    · refine ⟨_, hba, rfl, fun q u' hq j hj => ?_⟩
                      rw [← hks] at hj
                      rw [← hks]
                      rcases Nat.lt_or_ge q k.n with hq1 | hq1
                      · rw [List.getElem?_append_left (by rw [hb.len]; exact hq1)] at hq
                        obtain ⟨p, f1, f2, f3⟩ := hb.at_ (by omega)
                        rw [hba] at f1; cases f1
                        have hf := f3 q u' hq j (by omega)
                        rw [← hks] at hf
                        have hlt : q * k.sz + j < k.n * k.sz := by
                          have : (q + 1) * k.sz ≤ k.n * k.sz := Nat.mul_le_mul_right _ hq1
                          rw [Nat.add_mul] at this; omega
                        simp only [roomG]
                        rw [if_neg (by simp only [Nat.zero_add]; omega)]
                        exact hf
                      · rw [List.getElem?_append_right (by rw [hb.len]; exact hq1), hb.len] at hq
                        have hql : q - k.n < m := by
                          rcases Nat.lt_or_ge (q - k.n) us.length with h | h
                          · omega
                          · rw [List.getElem?_eq_none h] at hq; cases hq
                        have husz : ∀ q ∈ us, q.cells.size = k.sz := by
                          intro q hq
                          obtain ⟨j, hj, rfl⟩ := List.getElem_of_mem hq
                          rw [hks]; exact (hue j _ (List.getElem?_eq_getElem hj)).2.1
                        have hqe : q * k.sz = k.n * k.sz + (q - k.n) * k.sz := by rw [← Nat.add_mul]; congr 1; omega
                        have hlt : (q - k.n) * k.sz + j < (flat us).length := by
                          have : (q - k.n + 1) * k.sz ≤ m * k.sz := Nat.mul_le_mul_right _ hql
                          rw [Nat.add_mul] at this; omega
                        rw [← flat_get husz hq hj]
                        simp only [roomG, Nat.zero_add]
                        rw [if_pos ⟨trivial, trivial, by omega, by omega⟩, hqe]
                        simp only [List.getElem?_toArray]
                        rw [List.append_assoc, List.getElem?_append_right (by simp; omega)]
                        rw [List.getElem?_append_left (by simp; omega)]
                        congr 1
                        simp; omega
        · rename_i tk n0 ez m f' hsr
          cases htz : Nat.beq ez sz with
          | false => trivial
          | true =>
            have := beq_eq.1 htz; subst this
            simp only [cond_true]
            split
            · rename_i f hv
              intro ⟨hw, hp⟩
              obtain ⟨v, w', g', h2, h3, h4, h5, h6, _⟩ := app_vecB (ty := ty) r hu hx hz ht hsz hby hze hc1 hc2 hsr hv hw hp
              exact ⟨v, w', g', .inl (hrun _ _ h2), h3, h4, h5, RS0.ofR h6, rfl⟩
            · trivial
        · rename_i e' tk n0 m f' hsr
          cases htz : (Nat.beq 1 sz && Nat.beq e e') with
          | false => trivial
          | true =>
            simp only [Bool.and_eq_true] at htz
            obtain ⟨q1, q2⟩ := htz
            have q1 := beq_eq.1 q1; subst q1
            have q2 := beq_eq.1 q2; subst q2
            simp only [cond_true]
            split
            · rename_i f hv
              intro ⟨hw, hp⟩
              have hx' := hx
              simp only [R] at hx'
              obtain ⟨x1, x2, x3, x4, x5, k, x6, x7, x8, x9⟩ := hx'
              have hxv := bv_vec hx
              obtain ⟨v, w', g', h2, h3, h4, h5, h6, h7⟩ := app_vecB (ty := ty) r hu hxv hz ht hsz hby hze hc1 hc2 hsr hv hw hp
              refine ⟨v, w', g', .inl (hrun _ _ h2), h3, h4, h5, RS0.ofR ?_, rfl⟩
              simp only [R] at h6 ⊢
              obtain ⟨z1, z2, z3, z4, z5, k', z6, z7, z8, z9⟩ := h6
              refine ⟨z1, z2, z3, z4, z5, k', z6, z7, z8, fun h => ⟨(z9 h).1, (z9 h).2, ?_⟩⟩
              rcases h7 k' z6 with h8 | ⟨k0, h8, h9, h10⟩
              · exact h8
              · rw [x6] at h8; cases h8
                rw [h10]; exact (x9 h9.symm).2.2
            · trivial
        · trivial
    · trivial
  · trivial

/-! ### Conversions between strings and slices of bytes; maps -/

theorem Ext.addBlockZ [Lay] {g : G} {U : Nat → Prop} {h : Heap} {w w' : World} (i : Inv g U h w) {vals : Array Value} {T : Nat} {z : Nat × Nat} (hb : RowKit.Below w.heap.size w w') (hn : w'.heap[w.heap.size]? = some (.cells vals T z)) : Ext g w (Ab.addBlock g w.heap.size vals) w' := by
  have old : ∀ a v, g.σ a = some v → (Ab.addBlock g w.heap.size vals).σ a = some v := fun a v e => by
    have := i.cellLt e
    simp only [Ab.addBlock]
    rw [if_neg (by omega)]; exact e
  refine ⟨⟨old, fun _ _ e => e, fun _ k e => ⟨k, e, rfl, Nat.le_refl _, fun _ => rfl⟩⟩, rfl, rfl, fun a v e => ?_, fun a v e => ?_, hb⟩
  · simp only [Ab.addBlock] at e
    split at e
    · rename_i hb; exact .inr (by omega)
    · exact .inl e
  · simp only [Ab.addBlock] at e
    split at e
    · rename_i hb'
      split at e
      · rename_i hs
        refine ⟨?_, hs⟩
        simp only [World.cell?, hb', hn, hs]
        simpa using e
      · cases e
    · have hl := i.cellLt e
      exact ⟨(cell?_of_heap (hb.block _ hl)).trans (i.sub a v e).1, (i.sub a v e).2⟩

theorem bytes_below (w : World) (e : TypeId) (s : ByteArray) : RowKit.Below w.heap.size w (Lib.bytesWorld w e s) :=
  ⟨rfl, rfl, rfl, by rw [Lib.bytesWorld_size]; omega, fun k hk => Lib.bytesWorld_at_old w e s k hk⟩

theorem foldl_bytes : ∀ (l : List UInt8) (acc : ByteArray), (l.map fun b => (b.toNat : Int)).foldl (fun r n => r.push (UInt8.ofNat n.toNat)) acc = ⟨(acc.data.toList ++ l).toArray⟩
  | [], acc => by simp
  | x :: r, acc => by
    simp only [List.map_cons, List.foldl_cons]
    rw [foldl_bytes r]
    simp [ByteArray.push]

theorem allByte_get {m : Nat} {f : Nat → D} (h : allByte m f) {i : Nat} (hi : i < m) : f i = .int .u8 ((bytesG m f).getD i 0).toNat := by
  obtain ⟨b, hb⟩ := h i hi
  have : (bytesG m f).getD i 0 = b := by
    simp only [bytesG, List.getD, List.getElem?_map, List.getElem?_range hi, Option.map_some, Option.getD_some, hb, byteD]
    simp
  rw [this, hb]
theorem bytesG_len (m : Nat) (f : Nat → D) : (bytesG m f).length = m := by simp [bytesG]

def tdOf (kk : Option IntKind) : TypeDesc := match kk with | some k => .int k | none => .string

theorem kindK_desc {P : Program} {t : Nat} {kk : Option IntKind} (h : kindK P t = some kk) : P.underlying t = some (tdOf kk) := by
  unfold kindK at h
  split at h
  · rename_i k e; cases h; exact e
  · rename_i e; cases h; exact e
  · cases h

theorem sameKK_eq {a b : Option IntKind} (h : sameKK a b = true) : a = b := by
  unfold sameKK at h
  split at h
  · rw [kbeq h]
  · rfl
  · cases h

theorem keyOf_sound {g : G} {d : D} {v : Value} {kk : Option IntKind} {k : MKey} (h : keyOf d = some (kk, k)) (hr : R g d v) : keyV kk v = some k := by
  unfold keyOf at h
  split at h
  · cases h
    simp only [R] at hr
    subst hr
    simp [keyV]
  · cases h
    simp only [R] at hr
    rw [hr.1]
    simp [keyV]
  · cases h

theorem keyV_isKey {kk : Option IntKind} {v : Value} {k : MKey} (h : keyV kk v = some k) : MapKept.IsKey (tdOf kk) v := by
  unfold keyV at h
  split at h
  · split at h
    · rename_i hk; subst hk; exact rfl
    · cases h
  · split at h
    · rename_i hk; subst hk; trivial
    · cases h
  · cases h

theorem keyV_inj {kk : Option IntKind} {v v' : Value} {k : MKey} (h : keyV kk v = some k) (h' : keyV kk v' = some k) : v = v' := by
  unfold keyV at h h'
  split at h
  · split at h
    · rename_i hk
      cases h
      subst hk
      split at h'
      · split at h'
        · rename_i hk'
          simp only [Option.some.injEq, List.cons.injEq, KA.i.injEq, and_true] at h'
          cases hk'
          rw [h']
        · cases h'
      · split at h' <;> cases h'
      · cases h'
    · cases h
  · split at h
    · rename_i s hk
      cases h
      subst hk
      split at h'
      · split at h' <;> cases h'
      · rename_i s'
        simp only [if_true, Option.some.injEq, List.cons.injEq, KA.s.injEq, and_true] at h'
        obtain ⟨⟨a⟩⟩ := s; obtain ⟨⟨b⟩⟩ := s'
        simp only at h'
        rw [h']
      · cases h'
    · cases h
  · cases h

theorem sameZ_sound {g : G} {z z' : D} {v : Value} (h : sameZ z z' = true) (hr : R g z v) : R g z' v := by
  unfold sameZ at h
  split at h
  · simp only [Bool.and_eq_true, beq_iff_eq] at h
    obtain ⟨h1, h2⟩ := h
    subst h2
    rw [← h1]
    exact hr
  · exact hr
  · rw [← eq_of_beq h]; exact hr
  · simp only [R] at hr ⊢
    obtain ⟨h1, a, cap, h2, h3, h4, _⟩ := hr
    exact ⟨h1, a, cap, h2, h3, h4, fun i hi => by omega⟩
  all_goals first | exact hr | cases h

theorem conv2_ok [Lay] (r : Rel n g β U y st a w) (e : Ev g β st.sl a ev) {s t : Nat} {x : Operand} (ho : o.op = .convert s t x) : ResOk P n g β U y st a w o (convRes P st.h s t (ev x)) := by
  have key : ∀ v w', (convert s t (a.eval x)).run P w = .ok v w' → (execOp a.eval o).run P w = .ok (.value v) w' := fun v w' h => by simp [execOp, ho, h]
  have bts : ∀ (p : Addr) (m cap el : Nat) (l : List UInt8), P.underlying s = some (.slice el) → P.underlying el = some (.int .u8) → P.underlying t = some .string → l.length = m →
      (∀ j v, ((l.map fun b => (Value.int .u8 b.toNat))[j]?) = some v → w.cell? (p.add j) = some v) → (convert s t (.slice (some p) m cap)).run P w = .ok (.string ⟨l.toArray⟩) w := by
    intro p m cap el l hs he ht hl hc
    rw [run_convert_bytes_string w s t el _ _ _ hs he ht]
    have h1 := run_loadCells_list (P := P) (w := w) p (l.map fun b => (Value.int .u8 b.toNat)) hc
    rw [List.length_map, hl] at h1
    have h2 := run_bytesToString (P := P) w p m cap (l.map fun b => (b.toNat : Int)) (by rw [h1]; simp [Function.comp_def])
    rw [h2, foldl_bytes]
    simp
  have nilb : ∀ (cap el : Nat), P.underlying s = some (.slice el) → P.underlying el = some (.int .u8) → P.underlying t = some .string → (convert s t (.slice none 0 cap)).run P w = .ok (.string ⟨([] : List UInt8).toArray⟩) w := by
    intro cap el hs he ht
    rw [run_convert_bytes_string w s t el _ _ _ hs he ht]
    rfl
  unfold convRes
  split
  · rename_i el b hs ht hx
    split
    · rename_i he
      have h1 := dataOf e _ hx rfl
      simp only [R] at h1
      obtain ⟨hv, hl⟩ := h1
      have hrun := Lib.run_convert_string_bytes w s t el ⟨b.toArray⟩ hs ht he
      refine ⟨DOk.ofD rfl, _, _, addBlock g w.heap.size (Lib.bytesCells w el ⟨b.toArray⟩), .inl (key _ _ (by rw [hv]; exact hrun)), Ext.addBlockZ r.inv (bytes_below w el _) (Lib.bytesWorld_at_new w el _), RS0.ofR ?_⟩
      have hsz : (⟨b.toArray⟩ : ByteArray).size = b.length := by simp [ByteArray.size]
      simp only [R]
      refine ⟨hl, _, _, by rw [hsz], grownCap_ge w b.length 0 el, trivial, fun i hi => ⟨_, .int .u8 (b.getD i 0).toNat, rfl, rfl, by simp [strG, R], ⟨rfl, rfl⟩, fun j hj => ?_⟩⟩
      have : j = 0 := by omega
      subst this
      rw [addBlock_at]
      simp [Lib.bytesCells, Array.getElem?_append, hi, Value.cells, List.getD]
    · trivial
  · rename_i el m z f own hs ht hx
    split
    · rename_i he
      cases hz : (Nat.beq z 1 || Nat.beq m 0) with
      | false => trivial
      | true =>
        simp only [cond_true]
        have h1 := dataOf e _ hx rfl
        obtain ⟨pa, cap, vs, hv, hcap, hml, hvl, hel, _, hp, _, _⟩ := R.listOpen h1
        refine resNd r rfl fun hb => ⟨.string ⟨(bytesG m f).toArray⟩, key _ _ ?_, by simp only [R, true_and]; rw [bytesG_len]; exact hml⟩
        rw [hv]
        rcases Nat.eq_zero_or_pos m with h0 | h0
        · subst h0
          cases pa with
          | none => exact nilb cap el hs he ht
          | some p => exact bts p 0 cap el [] hs he ht rfl (fun j v hj => by simp at hj)
        · obtain ⟨p, rfl, hps, hc⟩ := hp h0
          have hz1 : z = 1 := by
            rcases Bool.or_eq_true _ _ ▸ hz with h | h
            · exact beq_eq.1 h
            · have := beq_eq.1 h; omega
          subst hz1
          refine bts p m cap el (bytesG m f) hs he ht (bytesG_len m f) fun j v hj => ?_
          have hjm : j < m := by
            have := (List.getElem?_eq_some_iff.1 hj).1
            rw [List.length_map, bytesG_len] at this; exact this
          have hvj : vs[j]? = some (vs[j]'(by omega)) := List.getElem?_eq_getElem _
          obtain ⟨q1, q2⟩ := hel j _ hvj
          rw [allByte_get hb hjm] at q1
          simp only [R] at q1
          have hcj := hc j _ hvj 0 (by omega)
          rw [q1] at hcj
          have hv' : v = .int .u8 ((bytesG m f).getD j 0).toNat := by
            rw [List.getElem?_map] at hj
            have hl : j < (bytesG m f).length := by rw [bytesG_len]; exact hjm
            rw [List.getElem?_eq_getElem hl] at hj
            simp only [Option.map_some, Option.some.injEq] at hj
            rw [← hj]; simp [List.getD, hl]
          have := (r.inv.sub _ _ (show g.σ ⟨p.block, p.off + j * 1 + 0, none⟩ = some (.int .u8 ((bytesG m f).getD j 0).toNat) from hcj)).1
          have hpa : p.add j = ⟨p.block, p.off + j * 1 + 0, none⟩ := by
            obtain ⟨p1, p2, p3⟩ := p
            have : p3 = none := hps
            subst this
            simp [Addr.add]
          rw [hv', hpa]; exact this
    · trivial
  · rename_i el tt m z hs ht hx
    split
    · rename_i f he hvw
      cases hz : Nat.beq z 1 with
      | false => trivial
      | true =>
        simp only [cond_true]
        have hz1 := beq_eq.1 hz
        subst hz1
        have h1 := dataOf e _ hx rfl
        refine resNd r rfl fun ⟨hw, hb⟩ => ?_
        simp only [R] at h1
        obtain ⟨hml, ba, cap, hv, hcap, k, hk, ksz, _, ku⟩ := h1
        obtain ⟨k', e1, e2, e3⟩ := r.inv.tok tt m hw
        rw [hk] at e1; cases e1
        obtain ⟨rfl, rfl⟩ := ku e2.symm
        refine ⟨.string ⟨(bytesG m f).toArray⟩, key _ _ ?_, by simp only [R, true_and]; rw [bytesG_len]; exact hml⟩
        rw [hv]
        rcases Nat.eq_zero_or_pos k.cap with h0 | h0
        · have hm0 : m = 0 := by omega
          subst hm0
          cases hka : k.a with
          | none => exact nilb _ el hs he ht
          | some p => exact bts p 0 _ el [] hs he ht rfl (fun j v hj => by simp at hj)
        · rw [hvw] at e3
          obtain ⟨bl, f1, _, T, vals, f3, f4, _, f6⟩ := e3 h0
          rw [f1]
          refine bts _ m _ el (bytesG m f) hs he ht (bytesG_len m f) fun j v hj => ?_
          have hjm : j < m := by
            have := (List.getElem?_eq_some_iff.1 hj).1
            rw [List.length_map, bytesG_len] at this; exact this
          obtain ⟨_, hel⟩ := f6 f rfl
          obtain ⟨u, q1, q2, q3⟩ := hel j (by omega)
          rw [allByte_get hb hjm] at q1
          simp only [R] at q1
          have := q3 0 (by omega)
          rw [q1, ksz] at this
          have hv' : v = .int .u8 ((bytesG m f).getD j 0).toNat := by
            rw [List.getElem?_map] at hj
            have hl : j < (bytesG m f).length := by rw [bytesG_len]; exact hjm
            rw [List.getElem?_eq_getElem hl] at hj
            simp only [Option.map_some, Option.some.injEq] at hj
            rw [← hj]; simp [List.getD, hl]
          have hpa : (⟨bl, 0, none⟩ : Addr).add j = ⟨bl, j, none⟩ := by
            simp [Addr.add]
            intro h; exact h.symm
          rw [hv', hpa, f3.cell]
          simpa [Value.cells] using this
    · trivial
  · exact conv_ok r e ho

theorem mvNew_zero (z : D) : (mvNew z).zero = z := by
  unfold mvNew
  split
  · rename_i k m
    cases h : (m == 0) with
    | false => rfl
    | true =>
      have : m = 0 := by simpa using h
      subst this; rfl
  · rfl
  · rfl
  · rfl
theorem mvNew_at (z : D) (k : MKey) : (mvNew z).at k = z := by
  unfold mvNew
  split
  · rename_i j m
    cases h : (m == 0) with
    | false => rfl
    | true =>
      have : m = 0 := by simpa using h
      subst this; rfl
  · rfl
  · rfl
  · rfl

theorem makeMap_ok [Lay] (r : Rel n g β U y st a w) {t : Nat} {rv : Option Operand} (ho : o.op = .makeMap t rv) : ResOk P n g β U y st a w o (makeMapD P st t (rv.map ev)) := by
  unfold makeMapD
  split
  · rename_i kt el hu hrv
    have hrv : rv = none := by cases rv <;> simp_all
    subst hrv
    split
    · rename_i z kk hz hk
      cases hd : isD z with
      | false => trivial
      | true =>
        simp only [cond_true]
        intro _
        have hn := r.inv.frL st.h.nl (Nat.le_refl _)
        have hrun : (execOp a.eval o).run P w = .ok (.value (.map (some w.heap.size))) (w.alloc (.map #[] 0)) := by simp [execOp, ho, Instr.makeMap]
        refine ⟨_, _, addBox g st.h.nl w.heap.size, .inl hrun, r.newBoxO (o := .map #[] 0) ⟨#[], 0, heap_alloc_new w _, ?_⟩, Grow.sameσ (addBox_le hn) rfl, (Ext.alloc r.inv _).kept r.inv.ub, by simp only [RS0, R]; exact ⟨w.heap.size, by simp [addBox, upd_same], rfl⟩, rfl⟩
        exact ⟨fun _ h => (by simp at h), fun k h => (by cases h), by simp, fun k _ => by rw [mvNew_at, mvNew_zero]⟩
    · trivial
  · trivial

theorem lookup_ok [Lay] (r : Rel n g β U y st a w) (e : Ev g β st.sl a ev) {t : Nat} {x i : Operand} {ok : Bool} (ho : o.op = .lookup t x i ok) : ResOk P n g β U y st a w o (lookupD P st.h t (ev x) (ev i) ok) := by
  unfold lookupD
  split
  · rename_i kt el l hu hx
    split
    · rename_i kk has v ki k z kp hb hki hz hkp
      cases hc : (isD z && sameZ z v.zero && sameKK kk ki && sameKK kk kp) with
      | false => trivial
      | true =>
        simp only [Bool.and_eq_true] at hc
        obtain ⟨⟨⟨hd, hs⟩, h1⟩, h2⟩ := hc
        have h1 := sameKK_eq h1
        have h2 := sameKK_eq h2
        subst h1; subst h2
        simp only [cond_true]
        have hxv := dataOf e _ hx rfl
        simp only [R] at hxv
        obtain ⟨b, hmu, hxv⟩ := hxv
        obtain ⟨b', f1, ⟨es, clock, f2, m1, m2, m3, m4⟩, _, _⟩ := r.inv.box l _ hb
        rw [hmu] at f1; cases f1
        have hid : isD (ev i) = true := by
          cases hi : ev i <;> rw [hi] at hki <;> first | rfl | (simp [keyOf] at hki)
        have hkv := keyOf_sound hki (dataOf e _ rfl hid)
        have hik := keyV_isKey hkv
        have hdsc := kindK_desc hkp
        obtain ⟨zv, hz1, hz2⟩ := zeroD_sound hz hd w
        have hks : ∀ q ∈ es.toList, MapKept.IsKey (tdOf kk) q.key := fun q hq => by obtain ⟨k', hk', _⟩ := m1 q hq; exact keyV_isKey hk'
        rcases MapKept.findNow_spec hik es.toList 0 hks with ⟨g1, g2⟩ | ⟨j, q, g1, g2, g3⟩
        · have hh : has k = false := by
            cases hh : has k with
            | false => rfl
            | true =>
              obtain ⟨q, hq, hqk⟩ := m2 k hh
              exact absurd (keyV_inj hqk hkv) (g2 q hq)
          have hrz : R g (v.at k) zv := by rw [m4 k hh]; exact sameZ_sound hs (hz2 g)
          rw [hh]
          cases ok with
          | true => exact resVal (v := .tuple #[zv, .bool false]) r (by simp [execOp, ho, hxv, Instr.lookup, run_underlying hu, MapKept.run_getObj_map f2, MapKept.run_checkKey hdsc hik, MapKept.run_findKey hdsc g1, hz1, Result.andThen]) (by show R g (.tup [v.at k, .bool false]) _; simp only [R, Rs]; exact ⟨_, rfl, _, _, rfl, hrz, _, _, rfl, rfl, rfl⟩)
          | false => exact resVal (v := zv) r (by simp [execOp, ho, hxv, Instr.lookup, run_underlying hu, MapKept.run_getObj_map f2, MapKept.run_checkKey hdsc hik, MapKept.run_findKey hdsc g1, hz1, Result.andThen]) hrz
        · obtain ⟨k', hk', hh, hr⟩ := m1 q (List.mem_of_getElem? g2)
          rw [g3, hkv] at hk'
          cases hk'
          rw [hh]
          cases ok with
          | true => exact resVal (v := .tuple #[q.val, .bool true]) r (by simp [execOp, ho, hxv, Instr.lookup, run_underlying hu, MapKept.run_getObj_map f2, MapKept.run_checkKey hdsc hik, MapKept.run_findKey hdsc g1, Result.andThen]) (by show R g (.tup [v.at k, .bool true]) _; simp only [R, Rs]; exact ⟨_, rfl, _, _, rfl, hr, _, _, rfl, rfl, rfl⟩)
          | false => exact resVal (v := q.val) r (by simp [execOp, ho, hxv, Instr.lookup, run_underlying hu, MapKept.run_getObj_map f2, MapKept.run_checkKey hdsc hik, MapKept.run_findKey hdsc g1, Result.andThen]) hr
    · trivial
  · trivial

theorem updK_same {α : Type} (f : MKey → α) (k : MKey) (v : α) : updK f k v k = v := by simp [updK]
theorem updK_other {α : Type} (f : MKey → α) {k x : MKey} (v : α) (h : x ≠ k) : updK f k v x = f x := by simp [updK, h]

theorem put_zero {mv mv' : MV} {k : MKey} {d : D} (h : mv.put k d = some mv') : mv'.zero = mv.zero ∧ mv'.at k = d ∧ ∀ x, x ≠ k → mv'.at x = mv.at x := by
  cases mv with
  | i j f =>
    cases d with
    | int j' m =>
      simp only [MV.put] at h
      cases hc : (j == j') with
      | false => rw [hc] at h; cases h
      | true =>
        rw [hc] at h
        cases h
        have := kbeq hc; subst this
        exact ⟨rfl, by simp [MV.at, updK_same], fun x hx => by simp [MV.at, updK_other _ _ hx]⟩
    | _ => cases h
  | s f =>
    cases d with
    | str q => cases h; exact ⟨rfl, by simp [MV.at, updK_same], fun x hx => by simp [MV.at, updK_other _ _ hx]⟩
    | _ => cases h
  | b f =>
    cases d with
    | bool q => cases h; exact ⟨rfl, by simp [MV.at, updK_same], fun x hx => by simp [MV.at, updK_other _ _ hx]⟩
    | _ => cases h
  | d z f =>
    cases h
    exact ⟨rfl, by simp [MV.at, updK_same], fun x hx => by simp [MV.at, updK_other _ _ hx]⟩

theorem mapPut_ok [Lay] (r : Rel n g β U y st a w) (e : Ev g β st.sl a ev) {t : Nat} {m k x : Operand} (ho : o.op = .mapUpdate t m k x ∨ o.op = .insert t m k x) : ResOk P n g β U y st a w o (mapPutD P st t (ev m) (ev k) (ev x)) := by
  unfold mapPutD
  split
  · rename_i kt el l hu hm
    split
    · rename_i kk has mv ki key kp hb hki hkp
      split
      · rename_i mv' hput
        cases hc : (isD (ev x) && sameKK kk ki && sameKK kk kp) with
        | false => rw [hc] at hput; cases hput
        | true =>
          rw [hc] at hput
          simp only [cond_true] at hput
          simp only [Bool.and_eq_true] at hc
          obtain ⟨⟨hd, h1⟩, h2⟩ := hc
          have h1 := sameKK_eq h1
          have h2 := sameKK_eq h2
          subst h1; subst h2
          intro _
          have hmv := dataOf e _ hm rfl
          simp only [R] at hmv
          obtain ⟨b, hmu, hmv⟩ := hmv
          obtain ⟨b', f1, ⟨es, clock, f2, m1, m2, m3, m4⟩, hU, _⟩ := r.inv.box l _ hb
          rw [hmu] at f1; cases f1
          have hid : isD (ev k) = true := by
            cases hi : ev k <;> rw [hi] at hki <;> first | rfl | (simp [keyOf] at hki)
          have hkv := keyOf_sound hki (dataOf e _ rfl hid)
          have hik := keyV_isKey hkv
          have hdsc := kindK_desc hkp
          have hxr : R g (ev x) (a.eval x) := dataOf e _ rfl hd
          obtain ⟨p1, p2, p3⟩ := put_zero hput
          have hks : ∀ q ∈ es.toList, MapKept.IsKey (tdOf kk) q.key := fun q hq => by obtain ⟨k', hk', _⟩ := m1 q hq; exact keyV_isKey hk'
          have hz : ∀ q, updK has key true q = false → mv'.at q = mv'.zero := fun q hq => by
            by_cases hqk : q = key
            · subst hqk; rw [updK_same] at hq; cases hq
            · rw [updK_other _ _ hqk] at hq
              rw [p3 q hqk, p1]; exact m4 q hq
          have hturn : ∀ es' clock', Turn b w { w with heap := w.heap.setIfInBounds b (.map es' clock') } := fun es' clock' =>
            ⟨⟨rfl, rfl, rfl, by simp, fun q hq => by simp [Ne.symm hq]⟩, fun q e => by
              by_cases hq : q = b
              · subst hq; rw [f2] at e; cases e
              · simp [Ne.symm hq]; exact e⟩
          have hlt : b < w.heap.size := (Array.getElem?_eq_some_iff.1 f2).1
          rcases MapKept.findNow_spec hik es.toList 0 hks with ⟨g1, g2⟩ | ⟨j, q, g1, g2, g3⟩
          · have hrun : (execOp a.eval o).run P w = .ok .skip { w with heap := w.heap.setIfInBounds b (.map (es.push { key := a.eval k, val := a.eval x, born := clock }) (clock + 1)) } := by
              rcases ho with ho | ho <;> simp [execOp, ho, hmv, Instr.mapUpdate, run_underlying hu, MapKept.run_getObj_map f2, MapKept.run_checkKey hdsc hik, MapKept.run_findKey hdsc g1, MapKept.run_setObj_map _ f2, Result.andThen]
            refine ⟨undef, _, g, .inr ⟨hrun, rfl⟩, r.setBoxO hb hmu (hturn _ _) ⟨_, _, (MapKept.heap_set f2).1, fun q hq => ?_, fun q hq => ?_, ?_, hz⟩, Grow.refl U g, (hturn _ _).kept hU, RS0.ofR undef_tup, rfl⟩
            · simp only [Array.toList_push, List.mem_append, List.mem_singleton] at hq
              rcases hq with hq | rfl
              · obtain ⟨k', hk', hh, hr⟩ := m1 q hq
                have hne : k' ≠ key := fun he => g2 q hq (keyV_inj (he ▸ hk') hkv)
                exact ⟨k', hk', by rw [updK_other _ _ hne]; exact hh, by rw [p3 k' hne]; exact hr⟩
              · exact ⟨key, hkv, updK_same _ _ _, by rw [p2]; exact hxr⟩
            · by_cases hqk : q = key
              · subst hqk; exact ⟨{ key := a.eval k, val := a.eval x, born := clock }, by simp, hkv⟩
              · rw [updK_other _ _ hqk] at hq
                obtain ⟨q', hq', e⟩ := m2 q hq
                exact ⟨q', by simp [Array.mem_toList_iff.1 hq'], e⟩
            · rw [Array.toList_push, List.map_append, List.nodup_append]
              refine ⟨m3, by simp, fun u hu' v hv => ?_⟩
              simp only [List.map_cons, List.map_nil, List.mem_singleton] at hv
              subst hv
              obtain ⟨q', hq', rfl⟩ := List.mem_map.1 hu'
              intro he
              rw [hkv] at he
              exact g2 q' hq' (keyV_inj he hkv)
          · have hj : es[j]? = some q := by simpa using g2
            have hrun : (execOp a.eval o).run P w = .ok .skip { w with heap := w.heap.setIfInBounds b (.map (es.modify j fun e => { e with key := a.eval k, val := a.eval x }) clock) } := by
              rcases ho with ho | ho <;> simp [execOp, ho, hmv, Instr.mapUpdate, run_underlying hu, MapKept.run_getObj_map f2, MapKept.run_checkKey hdsc hik, MapKept.run_findKey hdsc g1, hj, g3, MapKept.run_keyThatStays hik, MapKept.run_setObj_map _ f2, Result.andThen]
            have hkey : (es.modify j fun e => { e with key := a.eval k, val := a.eval x }).toList.map (·.key) = es.toList.map (·.key) := MapKept.modify_keys j _ fun e' he' => by rw [hj] at he'; cases he'; exact g3.symm
            have hmap : ∀ f : Value → Option MKey, (es.modify j fun e => { e with key := a.eval k, val := a.eval x }).toList.map (fun e => f e.key) = es.toList.map (fun e => f e.key) := fun f => by
              have := congrArg (List.map f) hkey
              simpa [List.map_map, Function.comp_def] using this
            have hget : ∀ i', (es.modify j fun e => { e with key := a.eval k, val := a.eval x }).toList[i']? = if j = i' then some { q with key := a.eval k, val := a.eval x } else es.toList[i']? := fun i' => by
              simp only [Array.getElem?_toList, Array.getElem?_modify]
              by_cases hij : j = i'
              · subst hij; simp [hj]
              · simp [hij]
            have huniq : ∀ (i' : Nat) (q' : MapEntry), es.toList[i']? = some q' → keyV kk q'.key = some key → i' = j := fun i' q' h1 h2 => by
              have hl1 : i' < (es.toList.map fun e => keyV kk e.key).length := by rw [List.length_map]; exact (List.getElem?_eq_some_iff.1 h1).1
              refine (List.getElem?_inj (l := es.toList.map fun e => keyV kk e.key) hl1 m3).1 ?_
              rw [List.getElem?_map, List.getElem?_map, h1, g2]
              simp only [Option.map_some]
              rw [h2, g3, hkv]
            refine ⟨undef, _, g, .inr ⟨hrun, rfl⟩, r.setBoxO hb hmu (hturn _ _) ⟨_, _, (MapKept.heap_set f2).1, fun q' hq => ?_, fun q' hq => ?_, ?_, hz⟩, Grow.refl U g, (hturn _ _).kept hU, RS0.ofR undef_tup, rfl⟩
            · obtain ⟨i', hi'⟩ := List.mem_iff_getElem?.1 hq
              rw [hget] at hi'
              split at hi'
              · cases hi'
                exact ⟨key, hkv, updK_same _ _ _, by rw [p2]; exact hxr⟩
              · rename_i hne
                obtain ⟨k', hk', hh, hr⟩ := m1 q' (List.mem_of_getElem? hi')
                have hnk : k' ≠ key := fun he => hne (huniq i' q' hi' (he ▸ hk')).symm
                exact ⟨k', hk', by rw [updK_other _ _ hnk]; exact hh, by rw [p3 k' hnk]; exact hr⟩
            · by_cases hqk : q' = key
              · subst hqk
                exact ⟨_, List.mem_of_getElem? (i := j) (by rw [hget, if_pos rfl]), hkv⟩
              · rw [updK_other _ _ hqk] at hq
                obtain ⟨q2, hq2, e⟩ := m2 q' hq
                obtain ⟨i', hi'⟩ := List.mem_iff_getElem?.1 hq2
                have hne : ¬ j = i' := fun he => by
                  subst he
                  rw [g2] at hi'; cases hi'
                  rw [g3, hkv] at e
                  exact hqk (Option.some.inj e).symm
                exact ⟨q2, List.mem_of_getElem? (i := i') (by rw [hget, if_neg hne]; exact hi'), e⟩
            · rw [hmap]; exact m3
      · trivial
    · trivial
  · trivial

end
end Go.Ab
