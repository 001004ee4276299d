/- The executor is sound, 3: numbers, strings, comparisons, conversions, closures, tuples. -/
import Derived.Test.YtmlhaikblfjghaaA6
namespace Go.Ab
section
variable {P : Program} {n : Nat} {g : G} {β : Nat → Nat} {U : Nat → Prop} {y : Nat → Bool → Prop} {st : St} {a : Act} {w : World} {ev : Operand → D} {o : Oper}

theorem run_binOp_op {op : BinOp} {t t' : Nat} {x z : Operand} {v : Value} (ho : o.op = .binOp op t x z t') (hg : (eqGuard op t x z (a.eval x) (a.eval z)).run P w = .ok () w)
    (hb : (binOp op t (a.eval x) (a.eval z)).run P w = .ok v w) : (execOp a.eval o).run P w = .ok (.value v) w := by
  simp [execOp, ho, hg, hb]

theorem eqGuard_int {op : BinOp} {t : Nat} {x z : Operand} {j k : IntKind} {p q : Int} : (eqGuard op t x z (.int j p) (.int k q)).run P w = .ok () w := by
  unfold eqGuard; cases op <;> simp
theorem eqGuard_str {op : BinOp} {t : Nat} {x z : Operand} {p q : ByteArray} : (eqGuard op t x z (.string p) (.string q)).run P w = .ok () w := by
  unfold eqGuard; cases op <;> simp
theorem eqGuard_bool {op : BinOp} {t : Nat} {x z : Operand} {p q : Bool} : (eqGuard op t x z (.bool p) (.bool q)).run P w = .ok () w := by
  unfold eqGuard; cases op <;> simp

theorem kbeq {j k : IntKind} (h : (j == k) = true) : j = k := by simpa using h

theorem partD_sound {t off : Nat} {cs : List D} {vs : List Value} {d : D} (hs : Rs g cs vs) (h : partD P t cs off = some d) : ∃ v, (part t vs.toArray off).run P w = .ok v w ∧ R g d v := by
  unfold partD at h
  split at h
  · rename_i m ha hz
    cases hb : Nat.ble (off + m) cs.length with
    | false => rw [hb] at h; cases h
    | true =>
      rw [hb] at h
      simp only [cond_true, Option.some.injEq] at h
      subst h
      have hm := Nat.le_of_ble_eq_true hb
      refine ⟨.agg ((vs.drop off).take m).toArray, ?_, by simp only [R]; exact ⟨_, rfl, (hs.drop off).take m⟩⟩
      simp only [part, Sem.run_bind, isAggT_sound ha, szOf_sound hz, Result.andThen_ok, if_true, Sem.run_pure]
      congr 2
      apply Array.ext'
      simp [List.extract_eq_take_drop]
  · rename_i ha
    obtain ⟨v, hv, hr⟩ := hs.get _ _ h
    refine ⟨v, ?_, hr⟩
    simp [part, isAggT_sound ha, hv]
  · cases h

/-- Structs of whole numbers, bools and strings are compared field by field. -/
theorem eqTy_sound : ∀ (m k t : Nat) (x z : D) (r : Bool) (vx vz : Value), eqTy P m t x z = some r → R g x vx → R g z vz → (Op.equalIn (m + k) t vx vz).run P w = .ok r w
  | 0, _, _, _, _, _, _, _, h, _, _ => by simp [eqTy] at h
  | m + 1, k, t, x, z, r, vx, vz, h, hx, hz => by
    have e : m + 1 + k = (m + k) + 1 := by omega
    rw [e]
    unfold eqTy at h
    split at h
    · rename_i hu
      simp only [R] at hx hz; subst hx; subst hz; cases h
      exact run_equalIn_bool' w _ _ _ _ hu
    · rename_i kk j p k2 q hu
      simp only [R] at hx hz; subst hx; subst hz
      cases hk : (j == k2) with
      | false => rw [hk] at h; cases h
      | true =>
        obtain rfl := kbeq hk
        rw [hk] at h
        simp only [cond_true, Option.some.injEq] at h
        subst h
        exact run_equalIn_int w _ t j kk p q hu
    · rename_i hu
      simp only [R] at hx hz
      obtain ⟨rfl, _⟩ := hx
      obtain ⟨rfl, _⟩ := hz
      cases h
      rw [run_equalIn_string w _ _ _ _ hu]
      simp
    · rename_i fs xs ys hu
      simp only [R] at hx hz
      obtain ⟨us, rfl, hus⟩ := hx
      obtain ⟨ws, rfl, hws⟩ := hz
      cases hst : P.stoodInHeld t with
      | true => rw [hst] at h; cases h
      | false =>
        rw [hst] at h
        simp only [cond_false] at h
        have hf : P.fieldsOf t = fs := by simp [Program.fieldsOf, hu]
        rw [run_equalIn_struct w _ _ _ _ (by rw [hf]; exact hu) hst, hf]
        clear hu hf hst
        generalize fs.toList = l at h
        induction l generalizing r with
        | nil => simp only [eqTy.eqFs, Option.some.injEq] at h; subst h; rfl
        | cons f l ih =>
          simp only [eqTy.eqFs] at h
          cases hn : (f.name == "_") with
          | true => rw [hn] at h; cases h
          | false =>
            rw [hn] at h
            simp only [cond_false] at h
            have hne : f.name ≠ "_" := by simpa using hn
            split at h
            · rename_i p q hp hq
              split at h
              · rename_i u hu
                obtain ⟨vp, hp1, hp2⟩ := partD_sound (P := P) (w := w) hus hp
                obtain ⟨vq, hq1, hq2⟩ := partD_sound (P := P) (w := w) hws hq
                have h1 := eqTy_sound m k _ _ _ _ _ _ hu hp2 hq2
                simp only [Op.eqFields, hne, ne_eq, not_false_iff, if_true, Sem.run_bind, hp1, hq1, h1, Result.andThen_ok]
                cases l with
                | nil =>
                  simp only [Option.some.injEq] at h
                  subst h
                  cases u <;> simp [Op.eqFields]
                | cons f' l' =>
                  simp only at h
                  split at h
                  · rename_i v hv
                    simp only [Option.some.injEq] at h
                    subst h
                    have h2 := ih v hv
                    cases u with
                    | true => simp only [Bool.not_true, Bool.false_eq_true, if_false, Bool.true_and]; exact h2
                    | false => simp
                  · cases h
              · cases h
            · cases h
    · cases h

theorem bin_int_ok (r : Rel n g β U y st a w) {op : BinOp} {t t' : Nat} {x z : Operand} (ho : o.op = .binOp op t x z t') {k k' : IntKind} {p q : Int} (hx : a.eval x = .int k p) (hz : a.eval z = .int k' q) :
    ResOk P n g β U y st a w o (binD P op t (.int k p) (.int k' q)) := by
  have hg : (eqGuard op t x z (a.eval x) (a.eval z)).run P w = .ok () w := by rw [hx, hz]; exact eqGuard_int
  have key : ∀ v, (binOp op t (.int k p) (.int k' q)).run P w = .ok v w → (execOp a.eval o).run P w = .ok (.value v) w := fun v h => run_binOp_op ho hg (by rw [hx, hz]; exact h)
  cases op
  case shl =>
    refine resNd r rfl fun hp => ⟨_, key (.int k (shlI k p q)) ?_, by simp [R]⟩
    simp [binOp_shl, Op.shift, shlI, Int.not_lt.2 hp]
  case shr =>
    refine resNd r rfl fun hp => ⟨_, key (.int k (shrI k p q)) ?_, by simp [R]⟩
    simp [binOp_shr, Op.shift, shrI, Int.not_lt.2 hp]
  all_goals
    simp only [binD]
    cases hk : (k == k') with
    | false => trivial
    | true => ?_
  all_goals (obtain rfl := kbeq hk; simp only [cond_true])
  case add => exact resVal (v := .int k (addI k p q)) r (key _ (by simp [binOp_add, Op.intArith, addI])) (by simp [R])
  case sub => exact resVal (v := .int k (subI k p q)) r (key _ (by simp [binOp_sub, Op.intArith, subI])) (by simp [R])
  case mul => exact resVal (v := .int k (mulI k p q)) r (key _ (by simp [binOp_mul, Op.intArith, mulI])) (by simp [R])
  case and => exact resVal (v := .int k (andI k p q)) r (key _ (by simp [binOp_and, Op.intBits, andI])) (by simp [R])
  case or => exact resVal (v := .int k (orI k p q)) r (key _ (by simp [binOp_or, Op.intBits, orI])) (by simp [R])
  case xor => exact resVal (v := .int k (xorI k p q)) r (key _ (by simp [binOp_xor, Op.intBits, xorI])) (by simp [R])
  case andNot => exact resVal (v := .int k (andNotI k p q)) r (key _ (by simp [binOp_andNot, Op.intBits, andNotI])) (by simp [R])
  case quo => exact resNd r rfl fun hp => ⟨.int k (quoI k p q), key _ (by simp [binOp_quo, Op.intDiv, quoI, hp]), by simp [R]⟩
  case rem => exact resNd r rfl fun hp => ⟨.int k (p.tmod q), key _ (by simp [binOp_rem, Op.intDiv, hp]), by simp [R]⟩
  case eql => exact resVal (v := .bool (p == q)) r (key _ (by simp [binOp_eql])) (by simp [R])
  case neq => exact resVal (v := .bool (p != q)) r (key _ (by simp [binOp_neq])) (by simp [R])
  case lss => exact resVal (v := .bool (decide (p < q))) r (key _ (by simp [binOp_lss])) (by simp [R])
  case leq => exact resVal (v := .bool (decide (p ≤ q))) r (key _ (by simp [binOp_leq])) (by simp [R])
  case gtr => exact resVal (v := .bool (decide (p > q))) r (key _ (by simp [binOp_gtr])) (by simp [R])
  case geq => exact resVal (v := .bool (decide (p ≥ q))) r (key _ (by simp [binOp_geq])) (by simp [R])
  all_goals trivial

theorem bin_str_ok (r : Rel n g β U y st a w) {op : BinOp} {t t' : Nat} {x z : Operand} (ho : o.op = .binOp op t x z t') {p q : List UInt8} (hx : R g (.str p) (a.eval x)) (hz : R g (.str q) (a.eval z)) :
    ResOk P n g β U y st a w o (binD P op t (.str p) (.str q)) := by
  simp only [R] at hx hz
  have hg : (eqGuard op t x z (a.eval x) (a.eval z)).run P w = .ok () w := by rw [hx.1, hz.1]; exact eqGuard_str
  have key : ∀ v, (binOp op t (.string ⟨p.toArray⟩) (.string ⟨q.toArray⟩)).run P w = .ok v w → (execOp a.eval o).run P w = .ok (.value v) w := fun v h => run_binOp_op ho hg (by rw [hx.1, hz.1]; exact h)
  cases op
  case add =>
    refine resNd r rfl fun hp => ⟨_, key (.string ⟨(p ++ q).toArray⟩) ?_, by simp only [R]; exact ⟨trivial, by rw [List.length_append]; exact hp⟩⟩
    have hs : ((⟨p.toArray⟩ : ByteArray).size) = p.length := by simp [ByteArray.size]
    have hs' : ((⟨q.toArray⟩ : ByteArray).size) = q.length := by simp [ByteArray.size]
    have hcat : ((⟨p.toArray⟩ : ByteArray) ++ ⟨q.toArray⟩) = ⟨(p ++ q).toArray⟩ := by
      have := Joins.data_append (⟨p.toArray⟩ : ByteArray) ⟨q.toArray⟩
      apply ByteArray.ext
      apply Array.ext'
      rw [this]
    have hle : ¬ ((p.length : Int) + q.length > IntKind.max .i64) := by
      have : (IntKind.max .i64) = 9223372036854775807 := by decide
      unfold strM at hp
      omega
    simp only [binOp_string_add, Op.stringOp, hs, hs', hcat]
    rw [if_neg (by simpa using hle)]
    rfl
  case eql => exact resVal (v := .bool (p == q)) r (key _ (by simp [binOp_string_eql])) (by simp [R])
  case neq => exact resVal (v := .bool (!(p == q))) r (key _ (by simp [binOp_string_neq])) (by simp [R])
  case lss => exact resVal (v := .bool (Op.bytesLess p q)) r (key _ (by simp [binOp_string_lss])) (by simp [R])
  case leq => exact resVal (v := .bool (Op.bytesLess p q || p == q)) r (key _ (by simp [binOp_string_leq])) (by simp [R])
  case gtr => exact resVal (v := .bool (!(Op.bytesLess p q || p == q))) r (key _ (by simp [binOp_string_gtr])) (by simp [R])
  case geq => exact resVal (v := .bool (!(Op.bytesLess p q))) r (key _ (by simp [binOp_string_geq])) (by simp [R])
  all_goals trivial

theorem bin_ok (r : Rel n g β U y st a w) (e : Ev g β st.sl a ev) {op : BinOp} {t t' : Nat} {x z : Operand} (ho : o.op = .binOp op t x z t') : ResOk P n g β U y st a w o (binD P op t (ev x) (ev z)) := by
  have dx : ∀ d, ev x = d → isD d = true → R g d (a.eval x) := fun d h1 h2 => by rw [← h1]; exact e.data (by rw [h1]; exact h2)
  have dz : ∀ d, ev z = d → isD d = true → R g d (a.eval z) := fun d h1 h2 => by rw [← h1]; exact e.data (by rw [h1]; exact h2)
  cases hx : ev x with
  | int k p =>
    cases hz : ev z with
    | int k' q =>
      have h1 := dx _ hx rfl; have h2 := dz _ hz rfl
      simp only [R] at h1 h2
      exact bin_int_ok r ho h1 h2
    | _ => trivial
  | str p =>
    cases hz : ev z with
    | str q => exact bin_str_ok r ho (dx _ hx rfl) (dz _ hz rfl)
    | _ => trivial
  | bool p =>
    cases hz : ev z with
    | bool q =>
      have h1 := dx _ hx rfl; have h2 := dz _ hz rfl
      simp only [R] at h1 h2
      have hg : (eqGuard op t x z (a.eval x) (a.eval z)).run P w = .ok () w := by rw [h1, h2]; exact eqGuard_bool
      simp only [binD]
      split
      · rename_i hu
        exact resVal (v := .bool (p == q)) r (run_binOp_op ho hg (by rw [h1, h2]; simp [binOp, Op.equal, Op.maxDepth, run_equalIn_bool' w _ _ _ _ hu])) (by simp [R])
      · rename_i hu
        exact resVal (v := .bool (!(p == q))) r (run_binOp_op ho hg (by rw [h1, h2]; simp [binOp, Op.equal, Op.maxDepth, run_equalIn_bool' w _ _ _ _ hu])) (by simp [R])
      · trivial
    | _ => trivial
  | agg p =>
    cases hz : ev z with
    | agg q =>
      have h1 := dx _ hx rfl; have h2 := dz _ hz rfl
      have h1' := h1; have h2' := h2
      simp only [R] at h1' h2'
      obtain ⟨us, hu, _⟩ := h1'
      obtain ⟨ws, hw, _⟩ := h2'
      simp only [binD]
      cases hq : P.eqGuardType P.depth t with
      | true => trivial
      | false =>
        have hg : (eqGuard op t x z (a.eval x) (a.eval z)).run P w = .ok () w := by rw [hu, hw]; exact run_eqGuard_agg w op t x z _ _ hq
        simp only [cond_false]
        rw [hu] at h1; rw [hw] at h2
        split
        · rename_i b hb
          have h3 := eqTy_sound (w := w) 10 9990 t _ _ _ _ _ hb h1 h2
          refine resVal (v := .bool b) r (run_binOp_op ho hg ?_) (by simp [R])
          rw [hu, hw, run_eql_struct, h3]; rfl
        · rename_i b hb
          have h3 := eqTy_sound (w := w) 10 9990 t _ _ _ _ _ hb h1 h2
          refine resVal (v := .bool (!b)) r (run_binOp_op ho hg ?_) (by simp [R])
          rw [hu, hw, run_neq_struct, h3]; rfl
        · trivial
    | _ => trivial
  | _ => trivial

theorem run_equalIn_nil {el : Nat} {t : Nat} (hu : P.underlying t = some (.slice el)) (d : Nat) (p : Addr) (m cap : Nat) : (Op.equalIn (d + 1) t (.slice (some p) m cap) (.slice none 0 0)).run P w = .ok false w := by
  unfold Op.equalIn
  simp [run_underlying hu]

theorem nil_ok (r : Rel n g β U y st a w) (e : Ev g β st.sl a ev) {op : BinOp} {t t' : Nat} {x z : Operand} (ho : o.op = .binOp op t x z t') (hz : isNilOp z = true) : ResOk P n g β U y st a w o (nilD P op t (ev x)) := by
  have hzc : a.eval z = .slice none 0 0 := by
    unfold isNilOp at hz
    split at hz
    · rfl
    · cases hz
  unfold nilD
  split
  · rename_i el m sz f own hu hx
    refine resNd r rfl fun hp => ⟨.bool false, ?_, by simp [R]⟩
    have h1 : R g (.list m sz f own) (a.eval x) := by rw [← hx]; exact e.data (by rw [hx]; rfl)
    simp only [R] at h1
    obtain ⟨_, ba, cap, hv, _, _, hel⟩ := h1
    obtain ⟨p, _, hb, _⟩ := hel 0 hp
    subst hb
    refine run_binOp_op ho ?_ ?_
    · rw [hv, hzc]; unfold eqGuard; simp
    · rw [hv, hzc]
      have := run_equalIn_nil (P := P) (w := w) hu (Op.maxDepth - 1) p m cap
      rw [show Op.maxDepth - 1 + 1 = Op.maxDepth from rfl] at this
      simp only [binOp, Op.equal, Sem.run_bind, this, Result.andThen_ok, Sem.run_pure]
  · rename_i el m sz f own hu hx
    refine resNd r rfl fun hp => ⟨.bool true, ?_, by simp [R]⟩
    have h1 : R g (.list m sz f own) (a.eval x) := by rw [← hx]; exact e.data (by rw [hx]; rfl)
    simp only [R] at h1
    obtain ⟨_, ba, cap, hv, _, _, hel⟩ := h1
    obtain ⟨p, _, hb, _⟩ := hel 0 hp
    subst hb
    refine run_binOp_op ho ?_ ?_
    · rw [hv, hzc]; unfold eqGuard; simp
    · rw [hv, hzc]
      have := run_equalIn_nil (P := P) (w := w) hu (Op.maxDepth - 1) p m cap
      rw [show Op.maxDepth - 1 + 1 = Op.maxDepth from rfl] at this
      simp only [binOp, Op.equal, Sem.run_bind, this, Result.andThen_ok, Sem.run_pure]; rfl
  · trivial

theorem binO_ok (r : Rel n g β U y st a w) (e : Ev g β st.sl a ev) {op : BinOp} {t t' : Nat} {x z : Operand} (ho : o.op = .binOp op t x z t') : ResOk P n g β U y st a w o (binOD P op t z (ev x) (ev z)) := by
  unfold binOD
  cases hz : isNilOp z with
  | true => exact nil_ok r e ho hz
  | false => exact bin_ok r e ho

theorem un_ok (r : Rel n g β U y st a w) (e : Ev g β st.sl a ev) {op : UnOp} {t : Nat} {x : Operand} (ho : o.op = .unOp op t x) : ResOk P n g β U y st a w o (unD op (ev x)) := by
  have key : ∀ v, (Op.unary op (a.eval x)).run P w = .ok v w → (execOp a.eval o).run P w = .ok (.value v) w := fun v h => by simp [execOp, ho, h]
  have dx : ∀ d, ev x = d → isD d = true → R g d (a.eval x) := fun d h1 h2 => by rw [← h1]; exact e.data (by rw [h1]; exact h2)
  unfold unD
  split
  · rename_i b hx
    have h1 := dx _ hx rfl
    simp only [R] at h1
    exact resVal (v := .bool (!b)) r (key _ (by rw [h1]; simp [Op.unary])) (by simp [R])
  · rename_i k m hx
    have h1 := dx _ hx rfl
    simp only [R] at h1
    exact resVal (v := .int k (subI k 0 m)) r (key _ (by rw [h1]; simp [Op.unary, Op.intArith, subI])) (by simp [R])
  · rename_i k m hx
    have h1 := dx _ hx rfl
    simp only [R] at h1
    exact resVal (v := .int k (xorI k (if k.signed then -1 else k.max) m)) r (key _ (by rw [h1]; simp [Op.unary, Op.intBits, xorI])) (by simp [R])
  · trivial

theorem conv_ok (r : Rel n g β U y st a w) (e : Ev g β st.sl a ev) {s t : Nat} {x : Operand} (ho : o.op = .convert s t x) : ResOk P n g β U y st a w o (convD P s t (ev x)) := by
  have key : ∀ v, (convert s t (a.eval x)).run P w = .ok v w → (execOp a.eval o).run P w = .ok (.value v) w := fun v h => by simp [execOp, ho, h]
  have dx : ∀ d, ev x = d → isD d = true → R g d (a.eval x) := fun d h1 h2 => by rw [← h1]; exact e.data (by rw [h1]; exact h2)
  unfold convD
  split
  · rename_i d k k' m hs ht hx
    have h1 := dx _ hx rfl
    simp only [R] at h1
    exact resVal (v := .int k (k.wrap m)) r (key _ (by rw [h1]; simp [convert, run_underlying hs, run_underlying ht, Conv.intToInt])) (by simp [R])
  · rename_i d m hs ht hx
    have h1 := dx _ hx rfl
    have h1' := h1
    simp only [R] at h1'
    exact resVal (v := a.eval x) r (key _ (by rw [h1'.1]; simp [convert, run_underlying hs, run_underlying ht])) h1
  · trivial

theorem rs_map (e : Ev g β st.sl a ev) : ∀ (l : List Operand), allD (l.map ev) = true → Rs g (l.map ev) (l.map a.eval)
  | [], _ => by simp [Rs]
  | x :: r, h => by
    simp only [allD, List.map_cons, List.all_cons, Bool.and_eq_true] at h
    simp only [List.map_cons, Rs]
    exact ⟨_, _, rfl, e.data h.1, rs_map e r h.2⟩

theorem makeFunc_ok (r : Rel n g β U y st a w) (e : Ev g β st.sl a ev) {f : Nat} {first caps : Array Operand} (ho : o.op = .makeFunc (.func f) first caps) :
    ResOk P n g β U y st a w o (bif first.isEmpty && allD (caps.toList.map ev) then .val (.clo f (caps.toList.map ev)) else .bad) := by
  cases h : (first.isEmpty && allD (caps.toList.map ev)) with
  | false => trivial
  | true =>
    simp only [Bool.and_eq_true] at h
    have hf : first = #[] := by simpa using h.1
    refine resVal (v := .func (.func f) #[] (caps.toList.map a.eval).toArray) r ?_ (by simp only [R]; exact ⟨_, rfl, rs_map e _ h.2⟩)
    simp [execOp, ho, Instr.makeFunc, hf]
    cases caps; simp

theorem extract_ok (r : Rel n g β U y st a w) (e : Ev g β st.sl a ev) {x : Operand} {i : Nat} (ho : o.op = .extract x i) :
    ResOk P n g β U y st a w o (match ev x with | .tup ds => optRes ds[i]? | _ => .bad) := by
  have dx : ∀ d, ev x = d → isD d = true → R g d (a.eval x) := fun d h1 h2 => by rw [← h1]; exact e.data (by rw [h1]; exact h2)
  cases hx : ev x with
  | tup ds =>
    simp only
    cases hd : ds[i]? with
    | none => trivial
    | some d =>
      have h1 := dx _ hx rfl
      simp only [R] at h1
      obtain ⟨vs, h2, h3⟩ := h1
      obtain ⟨v, hv, hr⟩ := h3.get i d hd
      exact resVal (v := v) r (by simp [execOp, ho, Instr.extract, h2, hv]) hr
  | _ => trivial

theorem index_ok (r : Rel n g β U y st a w) (e : Ev g β st.sl a ev) {t : Nat} {x i : Operand} (ho : o.op = .index t x i) : ResOk P n g β U y st a w o (indexD P t (ev x) (ev i)) := by
  have dx : ∀ d, ev x = d → isD d = true → R g d (a.eval x) := fun d h1 h2 => by rw [← h1]; exact e.data (by rw [h1]; exact h2)
  have di : ∀ d, ev i = d → isD d = true → R g d (a.eval i) := fun d h1 h2 => by rw [← h1]; exact e.data (by rw [h1]; exact h2)
  unfold indexD
  split
  · rename_i s k m hu hx hi
    have h1 := dx _ hx rfl; have h2 := di _ hi rfl
    simp only [R] at h1 h2
    refine resNd r rfl fun hp => ⟨.int .u8 (s.getD m.toNat 0).toNat, ?_, by simp [R]⟩
    have hm : m.toNat < s.length := by omega
    have hg : (⟨s.toArray⟩ : ByteArray)[m.toNat]? = some (s.getD m.toNat 0) := by
      have hsz : m.toNat < (⟨s.toArray⟩ : ByteArray).size := by simpa [ByteArray.size] using hm
      rw [getElem?_pos (⟨s.toArray⟩ : ByteArray) m.toNat hsz]
      have : s.getD m.toNat 0 = s[m.toNat] := by simp [List.getD, hm]
      rw [this]; rfl
    simp [execOp, ho, h1.1, h2, Instr.index, asIntOf, run_underlying hu, hp.1, hg]
  · trivial

end

end Go.Ab
