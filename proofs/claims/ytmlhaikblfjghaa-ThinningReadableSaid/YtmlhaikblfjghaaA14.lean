/- The executor is sound, 10: len, min, max, make, calls; all operations. -/
import Derived.Test.YtmlhaikblfjghaaA13
namespace Go.Ab

section
variable {P : Program} {n : Nat} {g : G} {β : Nat → Nat} {U : Nat → Prop} {y : Nat → Bool → Prop} {st : St} {a : Act} {w : World} {ev : Operand → D} {o : Oper}

theorem run_builtin {b : Builtin} {c : Call} (ho : o.op = .call c) (hc : c.callee = .builtin b) :
    (execOp a.eval o) = builtin b c.argTypes o.type (c.args.map fun | .const _ => true | _ => false) (c.args.map a.eval) := by
  simp only [execOp, ho, resolve, hc, invoke]
  rfl

theorem Rs.one {g : G} {d : D} {vs : List Value} (h : Rs g [d] vs) : ∃ v, vs = [v] ∧ R g d v := by
  simp only [Rs] at h
  obtain ⟨v, r, rfl, hv, rfl⟩ := h
  exact ⟨v, rfl, hv⟩

theorem minD_sound {g : G} : ∀ (l : List D) (vs : List Value) (x d : D) (vx : Value) (w : World), Rs g l vs → R g x vx →
    l.foldl (fun acc y => match acc, y with | some (.int k a), .int _ b => some (.int k (if b < a then b else a)) | _, _ => none) (some x) = some d →
    ∃ v, (vs.foldlM Builtin.min2 vx).run P w = .ok v w ∧ R g d v
  | [], vs, x, d, vx, w, hs, hx, h => by
    simp only [Rs] at hs; subst hs
    simp only [List.foldl_nil, Option.some.injEq] at h; subst h
    exact ⟨vx, by simp [List.foldlM], hx⟩
  | z :: l, vs, x, d, vx, w, hs, hx, h => by
    simp only [Rs] at hs
    obtain ⟨vz, r, rfl, hz, hs⟩ := hs
    have hbad : ∀ l : List D, l.foldl (fun (acc : Option D) y => match acc, y with | some (.int k a), .int _ b => some (.int k (if b < a then b else a)) | _, _ => none) none ≠ some d := by
      intro l; induction l with
      | nil => simp
      | cons q l ih => simpa using ih
    simp only [List.foldl_cons] at h
    split at h
    · rename_i _ k p k' q hxe
      cases hxe
      simp only [R] at hx hz
      subst hx; subst hz
      obtain ⟨v, h1, h2⟩ := minD_sound l r _ d _ w hs (by simp only [R]; rfl) h
      exact ⟨v, by simp only [List.foldlM_cons, Builtin.min2, Sem.run_bind, Sem.run_pure, Result.andThen_ok]; exact h1, h2⟩
    · exact absurd h (hbad l)

theorem maxD_sound {g : G} : ∀ (l : List D) (vs : List Value) (x d : D) (vx : Value) (w : World), Rs g l vs → R g x vx →
    l.foldl (fun acc y => match acc, y with | some (.int k a), .int _ b => some (.int k (if b > a then b else a)) | _, _ => none) (some x) = some d →
    ∃ v, (vs.foldlM Builtin.max2 vx).run P w = .ok v w ∧ R g d v
  | [], vs, x, d, vx, w, hs, hx, h => by
    simp only [Rs] at hs; subst hs
    simp only [List.foldl_nil, Option.some.injEq] at h; subst h
    exact ⟨vx, by simp [List.foldlM], hx⟩
  | z :: l, vs, x, d, vx, w, hs, hx, h => by
    simp only [Rs] at hs
    obtain ⟨vz, r, rfl, hz, hs⟩ := hs
    have hbad : ∀ l : List D, l.foldl (fun (acc : Option D) y => match acc, y with | some (.int k a), .int _ b => some (.int k (if b > a then b else a)) | _, _ => none) none ≠ some d := by
      intro l; induction l with
      | nil => simp
      | cons q l ih => simpa using ih
    simp only [List.foldl_cons] at h
    split at h
    · rename_i _ k p k' q hxe
      cases hxe
      simp only [R] at hx hz
      subst hx; subst hz
      obtain ⟨v, h1, h2⟩ := maxD_sound l r _ d _ w hs (by simp only [R]; rfl) h
      exact ⟨v, by simp only [List.foldlM_cons, Builtin.max2, Sem.run_bind, Sem.run_pure, Result.andThen_ok]; exact h1, h2⟩
    · exact absurd h (hbad l)

theorem args_arr (c : Call) : c.args.map a.eval = (c.args.toList.map a.eval).toArray := by cases c.args; simp

theorem builtin_ok (r : Rel n g β U y st a w) (e : Ev g β st.sl a ev) {c : Call} {b : Builtin} (ho : o.op = .call c) (hc : c.callee = .builtin b) (hall : allD (c.args.toList.map ev) = true) {bx : Bool} :
    ResOk P n g β U y st a w o (builtinD P st bx b c.argTypes.toList (c.args.toList.map ev)) := by
  have hs := rs_map e _ hall
  have hrun := run_builtin (a := a) ho hc
  rw [args_arr] at hrun
  generalize c.args.toList.map ev = ds at hs ⊢
  generalize c.args.toList.map a.eval = vs at hs hrun
  have hat : c.argTypes = c.argTypes.toList.toArray := by simp
  rw [hat] at hrun
  generalize c.argTypes.toList = ts at hrun ⊢
  unfold builtinD
  split
  · -- len of a slice
    rename_i t ts' m z f own
    obtain ⟨v, rfl, hv⟩ := hs.one
    split
    · rename_i el hu
      obtain ⟨ba, cap, _, rfl, _, h3, _⟩ := hv.listOpen
      refine ⟨h3, DOk.ofD rfl, VOk.plain r.inv (v := .int .i64 m) ?_ (RS0.ofR (by simp only [R]))⟩
      rw [hrun]; simp [builtin, Builtin.len_, run_underlying hu, goInt]
    · trivial
  · rename_i t ts' l off m
    obtain ⟨v, rfl, hv⟩ := hs.one
    split
    · rename_i el hu
      simp only [R] at hv
      obtain ⟨bl, _, ba, cap, rfl, _, h3, _⟩ := hv
      refine ⟨h3, DOk.ofD rfl, VOk.plain r.inv (v := .int .i64 m) ?_ (RS0.ofR (by simp only [R]))⟩
      rw [hrun]; simp [builtin, Builtin.len_, run_underlying hu, goInt]
    · trivial
  · rename_i t ts' s
    obtain ⟨v, rfl, hv⟩ := hs.one
    split
    · rename_i hu
      simp only [R] at hv
      obtain ⟨rfl, h3⟩ := hv
      refine ⟨h3, DOk.ofD rfl, VOk.plain r.inv (v := .int .i64 s.length) ?_ (RS0.ofR (by simp only [R]))⟩
      have hsz : (ByteArray.mk s.toArray).size = s.length := by show s.toArray.size = _; simp
      rw [hrun]; simp [builtin, Builtin.len_, run_underlying hu, goInt, hsz]
    · trivial
  · -- append
    rename_i t u x z
    simp only [Rs] at hs
    obtain ⟨vx, _, rfl, hx, vz, _, rfl, hz, rfl⟩ := hs
    have happ : ∀ v w', (Builtin.append_ #[t, u] o.type #[vx, vz]).run P w = .ok v w' → (execOp a.eval o).run P w = .ok (.value v) w' := by
      intro v w' h
      rw [hrun]; simp [builtin, h]
    split
    · rename_i el hu
      exact app_ok r (.inl ⟨_, hu⟩) hx hz happ
    · rename_i hu
      exact app_ok r (.inr hu) hx hz happ
    · trivial
  · -- min
    cases hm : minD ds with
    | none => trivial
    | some d =>
      cases ds with
      | nil => simp [minD] at hm
      | cons x l =>
        simp only [Rs] at hs
        obtain ⟨vx, rr, rfl, hx, hs⟩ := hs
        obtain ⟨v, h1, h2⟩ := minD_sound (P := P) l rr x d vx w hs hx hm
        refine resVal (v := v) r ?_ h2
        rw [hrun]; simp [builtin, Builtin.min_, h1]
  · cases hm : maxD ds with
    | none => trivial
    | some d =>
      cases ds with
      | nil => simp [maxD] at hm
      | cons x l =>
        simp only [Rs] at hs
        obtain ⟨vx, rr, rfl, hx, hs⟩ := hs
        obtain ⟨v, h1, h2⟩ := maxD_sound (P := P) l rr x d vx w hs hx hm
        refine resVal (v := v) r ?_ h2
        rw [hrun]; simp [builtin, Builtin.max_, h1]
  · trivial

theorem make_ok (r : Rel n g β U y st a w) (e : Ev g β st.sl a ev) {t : Nat} {l c : Operand} (ho : o.op = .makeSlice t l c) : ResOk P n g β U y st a w o (makeD P st t (ev l) (ev c)) := by
  unfold makeD
  split
  · rename_i el kl x kc z hu hl hc
    have h1 := dataOf e _ hl rfl
    have h2 := dataOf e _ hc rfl
    simp only [R] at h1 h2
    split
    · rename_i sz b zd hsz hby hze
      cases hcc : (isD zd && Nat.beq (cellsD zd).length (sz + 1)) with
      | false => trivial
      | true =>
        simp only [cond_true]
        simp only [Bool.and_eq_true] at hcc
        obtain ⟨hc1, hc2⟩ := hcc
        have hc2 := beq_eq.1 hc2
        intro ⟨hp1, hp2, hp3⟩
        subst hp2
        obtain ⟨i, hi, hib⟩ := bytesOf_sound hby
        have his : i.size = sz + 1 := by simp only [szOf, hi, Option.map_some, Option.some.injEq] at hsz; exact hsz
        obtain ⟨zv, hz1, hz2⟩ := zeroD_sound hze hc1 w
        have hizv : i.zero = some zv := by
          simp only [zeroD, hi, Option.bind_some] at hze
          cases hzi : i.zero with
          | none => rw [hzi] at hze; cases hze
          | some z' =>
            simp [zeroValue, typeInfo, hi, hzi] at hz1
            rw [hz1]
        have hxm : x ≤ x * ((b : Int) + 1) := by
          have : x * 1 ≤ x * ((b : Int) + 1) := Int.mul_le_mul_of_nonneg_left (by omega) hp1
          simpa using this
        have hroom : x * ((b : Int) + 1) ≤ 140737488355328 := by
          have : ((roomM : Nat) : Int) = 140737488355328 := rfl
          rw [← this]; simpa using hp3
        have hrun := run_make (P := P) (w := w) t el i zv hu hi hizv kl kc x x hp1 (Int.le_refl _) (by rw [hib, Int.mul_comm]; push_cast; omega) (by omega)
        have hzc := (hz2 g).cells
        have hzl : zv.cells.size = sz + 1 := by have := hzc.length; simp at this; omega
        have hro : RowOf g (madeCells zv.cells (x.toNat * i.size)) (.arr (x.toNat * (sz + 1)) (cellsG (sz + 1) fun _ => zd)) := by
          refine ⟨by rw [size_madeCells, his]; exact Nat.le_refl _, fun j hj => ?_⟩
          have hm : j % (sz + 1) < sz + 1 := Nat.mod_lt _ (by omega)
          have hdl := List.getElem?_eq_getElem (l := cellsD zd) (i := j % (sz + 1)) (by omega)
          obtain ⟨v, hv, hr⟩ := hzc.get _ _ hdl
          refine ⟨v, ?_, ?_⟩
          · rw [madeCells, Array.getElem?_map, Array.getElem?_range, if_pos (by rw [his]; exact hj)]
            simp only [Option.map_some, Option.some.injEq, hzl]
            rw [Array.getElem?_toList] at hv
            rw [getElem!_def, hv]
          · have hcg := cellsG_get (fun _ => zd) (i := j) (sz := sz + 1) hc2
            rw [hcg]
            simp only [List.getD, hdl, Option.getD_some]; exact hr
        have r1 := r.newBox (T := el) hro
        have le := addBox_le (b := w.heap.size) (r.inv.frL st.h.nl (Nat.le_refl _))
        have hlen : x.toNat ≤ lenM := by unfold lenM; omega
        refine ⟨.slice (some ⟨w.heap.size, 0, none⟩) x.toNat x.toNat, _, _, .inl ?_, r1, Grow.sameσ le rfl, (Ext.alloc r.inv _).kept r.inv.ub, RS0.ofR ?_, rfl⟩
        · simp only [execOp, ho, h1, h2, Sem.run_bind, hrun, Result.andThen_ok, Sem.run_pure]
        · simp only [R]
          exact ⟨_, upd_same _ _ _, _, _, rfl, Nat.le_refl _, hlen, fun _ => rfl⟩
    · trivial
  · trivial

theorem call_ok (e : Ev g β st.sl a ev) {c : Call} {f : Nat} {caps : List D} {x : Operand} (ho : o.op = .call c) (hc : c.callee = .value x) (hx : ev x = .clo f caps) (hall : allD (c.args.toList.map ev) = true) :
    ResOk P n g β U y st a w o (.call f (c.args.toList.map ev ++ caps)) := by
  intro ⟨fn, h1, h2, h3⟩
  have hf := dataOf e _ hx rfl
  simp only [R] at hf
  obtain ⟨vs, hv, hcs⟩ := hf
  have hs := rs_map e _ hall
  refine ⟨c.args.toList.map a.eval ++ vs, ?_, hs.append hcs⟩
  have hargs := args_arr (a := a) c
  simp only [execOp, ho, resolve, hc, hv, Deferred.ofValue, Sem.run_bind, Sem.run_pure, Result.andThen_ok, invoke, callFunc, hargs]
  have h3' : ¬ fn.name = "runtime.NumGoroutine" := by simpa using h3
  have h2' : ¬ fn.body = none := by intro h; rw [h] at h2; cases h2
  simp [h1, h2', h3']

theorem opD_ok {cfg : Cfg} (r : Rel n g β U y st a w) (e : Ev g β st.sl a ev) : ResOk P n g β U y st a w o (opD P cfg st ev o.dst o.op) := by
  unfold opD
  split
  · rename_i x ho; exact move_ok r e (.inl ho)
  · rename_i x ho; exact move_ok r e (.inr ho)
  · rename_i t ho; exact alloc_ok r ho
  · rename_i t x ho; exact box_ok r e ho
  · rename_i t parts ho; exact build_ok r e ho
  · rename_i t len parts ho; exact buildSlice_ok r e ho
  · rename_i t x ho; exact load_ok r e ho
  · rename_i t x z ho; exact store_ok r e ho
  · rename_i x ho; exact nilCheck_ok r e ho
  · rename_i op t x z t' ho; exact binO_ok r e ho
  · rename_i op t x ho; exact un_ok r e ho
  · rename_i s t x ho; exact conv_ok r e ho
  · rename_i f first caps ho; exact makeFunc_ok r e ho
  · rename_i t l c ho; exact make_ok r e ho
  · rename_i t x lo hi mx ho; exact slice_ok r e ho
  · rename_i t x f ho; exact fieldAddr_ok r e ho
  · rename_i t x i ho; exact indexAddr_ok r e ho
  · rename_i t x i ho; exact index_ok r e ho
  · rename_i x i ho; exact extract_ok r e ho
  · rename_i c ho
    split
    · rename_i f hc
      split
      · rename_i f' caps hx
        cases hall : allD (c.args.toList.map ev) with
        | false => trivial
        | true => exact call_ok e ho hc hx hall
      · trivial
    · rename_i b hc
      cases hall : allD (c.args.toList.map ev) with
      | false => trivial
      | true => exact builtin_ok r e ho hc hall
    · trivial
  · trivial

end
end Go.Ab
