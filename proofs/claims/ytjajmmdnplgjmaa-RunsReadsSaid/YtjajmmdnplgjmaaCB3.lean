/- Seat 2: what Of answers, by the reference; the law on Of. -/
import Derived.Test.YtjajmmdnplgjmaaCB2
import Derived.Test.YtjajmmdnplgjmaaRows
namespace Go.Proofs.Ytjajmmdnplgjmaa.S1
open Go Go.Ab Go.Proofs
theorem over_eq {lim c : Int} (h0 : 0 ≤ c) (h : c ≤ 1000000) : over lim c = decide (lim ≥ 0 ∧ c + 1 > lim) := by
  unfold over
  rw [add64 (by omega) (by omega)]
  by_cases h1 : lim ≥ 0
  · rw [decide_eq_true h1]; simp [h1]
  · rw [decide_eq_false h1]; simp [h1]
theorem cut_cons {at_ to : Int} {x : Chg} {l : List Chg} (h : Inc at_ (x :: l)) (ht : x.time ≤ to) : cut (x :: l) at_ to = x :: cut l x.time to := by
  obtain ⟨h1, h2⟩ := h
  have hgt := Inc.gt h2
  simp only [cut, List.filter_cons, decide_eq_true (show x.time > at_ by omega), decide_eq_true ht, Bool.and_self, if_true]
  congr 1
  refine List.filter_congr fun y hy => ?_
  have := hgt y hy
  rw [decide_eq_true (show y.time > at_ by omega), decide_eq_true (show y.time > x.time by omega)]
theorem cut_stop {at_ to : Int} {x : Chg} {l : List Chg} (h : Inc at_ (x :: l)) (ht : x.time > to) : cut (x :: l) at_ to = [] := by
  unfold cut
  rw [List.filter_eq_nil_iff]
  intro y hy
  have : to < y.time := by
    rcases List.mem_cons.1 hy with rfl | hy
    · exact ht
    · have := Inc.gt h.2 y hy; omega
  simp; omega
/-- The rounds: all of them, or the source's error. -/
theorem itR_plain (to lim : Int) : ∀ (b : List Chg) (at_ c : Int) (out : List Sp), Inc at_ b → 0 ≤ c → c + b.length ≤ 999999 →
    ((lim < 0 ∨ c + (cut b at_ to).length + 1 ≤ lim) → itR lim to b c out = ((cut b at_ to).foldl (fun o x => addS o x.time x.val) out, c + (cut b at_ to).length + 1, 0)) ∧
    (¬ (lim < 0 ∨ c + (cut b at_ to).length + 1 ≤ lim) → (itR lim to b c out).2.2 = 14)
  | [], at_, c, out, _, h0, hl => by
    simp only [List.length_nil] at hl
    have ho := over_eq (lim := lim) h0 (by omega)
    have ha : addI .i64 c 1 = c + 1 := add64 (by omega) (by omega)
    simp only [itR, ha, ho, cut, List.filter_nil, List.length_nil, List.foldl_nil]
    refine ⟨fun h => ?_, fun h => ?_⟩
    · rw [decide_eq_false (by omega)]; simp
    · rw [decide_eq_true (by omega)]; rfl
  | x :: l, at_, c, out, hi, h0, hl => by
    simp only [List.length_cons] at hl
    have ho := over_eq (lim := lim) h0 (by omega)
    have ha : addI .i64 c 1 = c + 1 := add64 (by omega) (by omega)
    have hi2 := hi
    obtain ⟨h1, h2⟩ := hi2
    simp only [itR, ha, ho]
    by_cases ht : x.time > to
    · rw [cut_stop hi ht, decide_eq_true ht]
      simp only [List.length_nil, List.foldl_nil, cond_true]
      refine ⟨fun h => ?_, fun h => ?_⟩
      · rw [decide_eq_false (by omega)]; simp
      · rw [decide_eq_true (by omega)]; rfl
    · rw [cut_cons hi (by omega), decide_eq_false ht]
      simp only [List.length_cons, List.foldl_cons, cond_false]
      have ih := itR_plain to lim l x.time (c + 1) (addS out x.time x.val) h2 (by omega) (by omega)
      refine ⟨fun h => ?_, fun h => ?_⟩
      · rw [decide_eq_false (by omega)]
        simp only [cond_false]
        rw [ih.1 (by omega)]
        congr 2
        push_cast; omega
      · by_cases hc : lim ≥ 0 ∧ c + 1 > lim
        · rw [decide_eq_true hc]; rfl
        · rw [decide_eq_false hc]
          simp only [cond_false]
          exact ih.2 (by omega)
theorem cut_aft (l : List Chg) (frm to : Int) : cut (aft l frm) frm to = cut l frm to := by
  unfold cut aft
  rw [List.filter_filter]
  refine List.filter_congr fun x _ => ?_
  cases decide (x.time > frm) <;> simp
theorem aft_len (l : List Chg) (frm : Int) : (aft l frm).length ≤ l.length := List.length_filter_le _ _
/-- A question within the wave. -/
structure Ask (w : Wv) (sig frm to : Int) : Prop where
  hsig : 0 ≤ sig ∧ sig < (w.sig.length : Int)
  hkind : (sigOf w sig).kind ≠ 3
  hfrm : 0 ≤ frm
  hle : frm ≤ to
  hto : to ≤ w.fin
theorem SmOk.at {w : Wv} (h : SmOk w) {sig : Int} (hs : 0 ≤ sig ∧ sig < (w.sig.length : Int)) : (sigOf w sig).chg.length ≤ 20 ∧ (sigOf w sig).width ≤ 64 ∧ Inc (-1) (sigOf w sig).chg := by
  have : sig.toNat < w.sig.length := by omega
  refine h.sig _ ?_
  unfold sigOf
  rw [List.getD_eq_getElem?_getD, List.getElem?_eq_getElem this]
  exact List.getElem_mem this
/-- How many calls of the source Of makes. -/
def ofN (w : Wv) (sig frm to : Int) : Int := (cut (sigOf w sig).chg frm to).length + 3
theorem ofR_ask {w : Wv} (hw : SmOk w) {sig frm to lim : Int} (a : Ask w sig frm to) :
    ((lim < 0 ∨ ofN w sig frm to ≤ lim) → ofR w lim 0 sig frm to = (codeL (sigAt (sigOf w sig) frm) (cut (sigOf w sig).chg frm to) frm to, 0, ofN w sig frm to)) ∧
    (¬ (lim < 0 ∨ ofN w sig frm to ≤ lim) → (ofR w lim 0 sig frm to).1 = [] ∧ (ofR w lim 0 sig frm to).2.1 = 14) := by
  obtain ⟨hs, hk, h0, h1, h2⟩ := a
  obtain ⟨q1, _, q3⟩ := hw.at hs
  have e1 : addI .i64 0 1 = 1 := rfl
  have e2 : addI .i64 1 1 = 2 := rfl
  unfold ofR
  rw [if_neg (by omega), callR_ok hs, e1, callR_ok hs, e2, over_eq (by omega) (by omega), over_eq (by omega) (by omega), if_neg hk]
  obtain ⟨_, _, _, e3⟩ := q3.aft frm
  have hl := aft_len (sigOf w sig).chg frm
  have ih := itR_plain to lim (aft (sigOf w sig).chg frm) frm 2 [⟨frm, 0, sigAt (sigOf w sig) frm⟩] e3 (by omega) (by omega)
  rw [cut_aft] at ih
  unfold ofN
  refine ⟨fun h => ?_, fun h => ?_⟩
  · rw [decide_eq_false (by omega), decide_eq_false (by omega)]
    simp only [cond_false, ne_eq, not_true_eq_false, if_false]
    rw [ih.1 (by omega)]
    simp only [not_true_eq_false, if_false]
    unfold codeL
    congr 2
    omega
  · by_cases g1 : lim ≥ 0 ∧ 0 + 1 > lim
    · rw [decide_eq_true g1]
      exact ⟨rfl, rfl⟩
    rw [decide_eq_false g1]
    simp only [cond_false, ne_eq, not_true_eq_false, if_false]
    by_cases g2 : lim ≥ 0 ∧ 1 + 1 > lim
    · rw [decide_eq_true g2]
      exact ⟨rfl, rfl⟩
    rw [decide_eq_false g2]
    simp only [cond_false, not_true_eq_false, if_false]
    have := ih.2 (by omega)
    rw [if_pos (by rw [this]; decide)]
    exact ⟨rfl, this⟩
theorem srt_inc : ∀ {l : List Chg} {t : Int} {p : Option Chg}, Inc t l → (match p with | none => True | some y => y.time ≤ t) → srt p l = true
  | [], _, _, _, _ => rfl
  | x :: r, t, p, ⟨h1, h2⟩, hp => by
    simp only [srt, Bool.and_eq_true]
    refine ⟨?_, srt_inc (p := some x) h2 (Int.le_refl _)⟩
    cases p with
    | none => rfl
    | some y => simp only at hp; simp; omega
theorem ofR_rOf {w : Wv} (hw : SmOk w) {sig frm to : Int} : (ofR w (-1) 0 sig frm to).1 = (rOf w sig frm to).1 ∧ (ofR w (-1) 0 sig frm to).2.1 = (rOf w sig frm to).2 := by
  unfold rOf
  by_cases hr : frm ≥ 0 ∧ frm ≤ to ∧ to ≤ w.fin
  · rw [if_pos hr]
    by_cases hs : 0 ≤ sig ∧ sig < (w.sig.length : Int)
    · rw [if_pos hs]
      by_cases hk : (sigOf w sig).kind = 3
      · rw [if_pos hk]
        unfold ofR
        rw [if_neg (by omega), callR_ok hs, over_eq (by omega) (by omega), decide_eq_false (by omega)]
        simp only [cond_false, ne_eq, not_true_eq_false, if_false]
        rw [if_pos hk]
        exact ⟨rfl, rfl⟩
      · rw [if_neg hk]
        have ha := (ofR_ask hw (lim := -1) ⟨hs, hk, hr.1, hr.2.1, hr.2.2⟩).1 (.inl (by omega))
        rw [ha]
        obtain ⟨q1, _, q3⟩ := hw.at hs
        unfold rfcR
        rw [if_pos ⟨hr.1, hr.2.1, by have := hw.fin.2; omega⟩, if_pos (srt_inc q3 trivial)]
        refine ⟨?_, rfl⟩
        simp only
        rw [refL_code q3 _ hr.2.1]
        unfold sigAt
        rw [if_neg hk]
    · rw [if_neg hs]
      unfold ofR
      have : callR w (-1) 0 sig = 2 := by
        unfold callR
        rw [show decide ((-1 : Int) ≥ 0) = false from rfl]
        simp only [cond_false]
        by_cases h1 : sig < 0
        · rw [decide_eq_true h1]; rfl
        · rw [decide_eq_false h1, decide_eq_true (show sig ≥ (w.sig.length : Int) by omega)]; rfl
      rw [if_neg (by omega), this]
      simp
  · rw [if_neg hr]
    unfold ofR
    rw [if_pos (by omega)]
    exact ⟨rfl, rfl⟩
theorem SmOk.of {w : Wv} (h : SmOk w) : ∀ q ∈ w.sig, q.chg.length ≤ 900 ∧ q.width ≤ 1000000 ∧ Inc (-1) q.chg := fun q hq => by
  obtain ⟨h1, h2, h3⟩ := h.sig q hq
  exact ⟨by omega, by omega, h3⟩
theorem F3 : OkF 3 Try.f3 := ⟨by kernel_rfl, by kernel_rfl, by kernel_rfl⟩
def lv3 : List (List Nat × List Nat) := []
noncomputable def nLOfs (w : Wv) (sig : Int) (frm : Int) (to : Int) : List Nat → Nat → Option Ans := scrAt [([1, 0, 0], 1, Ans.pure [w.d] (B (smB w))), ([1, 0, 1, 0, 0], 0, Ans.pure [] (B true)), ([1, 1, 0], 1, Ans.eff (D.bp 0 0) (hM w (-1) 0)), ([1, 1, 0], 6, Ans.eff (.tup [L (ofR w (-1) 0 sig frm to).fst 3 Sp.d, I (ofR w (-1) 0 sig frm to).snd.fst]) (hMn w (-1) (ofR w (-1) 0 sig frm to).snd.snd)), ([1, 1, 1, 0], 4, Ans.pure [w.d, I sig, I frm, I to] (.tup [L (rOf w sig frm to).fst 3 Sp.d, I (rOf w sig frm to).snd])), ([1, 1, 1, 1, 0], 6, Ans.pure [L (rOf w sig frm to).fst 3 Sp.d, L (rOf w sig frm to).fst 3 Sp.d] (B true)), ([1, 1, 1, 1, 0], 9, Ans.pure [] (B true))]
theorem nLOf (w : Wv) (sig frm to : Int) (K : D → Prop) : runS (En Try.f3) (fi Try.f3 K) (nLOfs w sig frm to) lv3 200 [.code []] ⟨argSlots 0 [w.d, I sig, I frm, I to], .empty⟩ =
  (PureW PP 9 [w.d] [w.d] (B (smB w)) ∧ bif !smB w then PureW PP 10 [] [] (B true) ∧ K (B true) else Does PP 12 [.agg [L w.sig 3 Sig.d, L w.gap 2 Iv.d, I w.fin]] Heap.empty (D.bp 0 0) (hM w (-1) 0) ∧ Does PP 11 [D.iface 32 (D.bp 0 0), I sig, I frm, I to] { box := upd (fun _ => none) 0 (some (Row.lit [L w.sig 3 Sig.d, L w.gap 2 Iv.d, I w.fin, I (-1), I 0])), nl := 1, hw := fun _ => none, nt := 0, vw := fun _ => none : Heap } (.tup [L (ofR w (-1) 0 sig frm to).fst 3 Sp.d, I (ofR w (-1) 0 sig frm to).snd.fst]) (hMn w (-1) (ofR w (-1) 0 sig frm to).snd.snd) ∧ PureW PP 13 [w.d, I sig, I frm, I to] [w.d, I sig, I frm, I to] (.tup [L (rOf w sig frm to).fst 3 Sp.d, I (rOf w sig frm to).snd]) ∧ (((ofR w (-1) 0 sig frm to).snd.fst == (rOf w sig frm to).snd) = true → PureW PP 14 [L (ofR w (-1) 0 sig frm to).fst 3 Sp.d, L (rOf w sig frm to).fst 3 Sp.d] [L (rOf w sig frm to).fst 3 Sp.d, L (rOf w sig frm to).fst 3 Sp.d] (B true)) ∧ ((bif (ofR w (-1) 0 sig frm to).snd.fst == (rOf w sig frm to).snd then true else false) = true → PureW PP 10 [] [] (B true)) ∧ K (B (bif bif (ofR w (-1) 0 sig frm to).snd.fst == (rOf w sig frm to).snd then true else false then true else false))) := by kernel_rfl
theorem c3 (w : Wv) (sig frm to : Int) : Pure PP 3 [w.d, I sig, I frm, I to] (B true) := by
  refine pu F3 (by kernel_rfl) (of_eq (nLOf w sig frm to _) ⟨PureW.mk (c9 _), cond_intro (fun _ => ⟨PureW.mk c10, Wk.refl _⟩) fun h => ?_⟩)
  have hw := smB_ok (w := w) (by simpa using h)
  obtain ⟨h1, h2⟩ := ofR_rOf hw (sig := sig) (frm := frm) (to := to)
  refine ⟨e12 w, e11 hw.of 0, PureW.mk (c13 w sig frm to fun q hq => ⟨(hw.sig q hq).1, (hw.sig q hq).2.1⟩), fun _ => ?_, fun _ => PureW.mk c10, ?_⟩
  · rw [h1]; exact PureW.mk (c14 _)
  · rw [h2]; simp only [beq_self_eq_true, cond_true]; exact Wk.refl _
end Go.Proofs.Ytjajmmdnplgjmaa.S1
/- Seat 2: the arguments read. -/
namespace Go.Proofs.Ytjajmmdnplgjmaa.S1
open Go Go.Ab Go.Proofs
open Go.ChangeShapes Go.WideShapes Go.ChangeAt Go.RowKit Go.Joins

abbrev any {α : Type} : α → Prop := fun _ => True
theorem rc {P : Program} {total : Nat} {f : Field} {fs : List Field} {off off' t : Nat} {α β : Type} {enc : α → D} {encF : β → List D} (h : Reads P t enc any) (k : ReadsF P total fs off' encF any) (ht : f.type = t) (ho : f.offset = off) (hs : off + P.cellsOf t = off') :
    ReadsF P total (f :: fs) off (fun x : α × β => cellsD (enc x.1) ++ encF x.2) any := by
  subst ht; subst hs
  have hc := ReadsF.cons h k ho
  exact ⟨hc.size, hc.ones, hc.data, fun a b => by obtain ⟨x, _, hr⟩ := hc.it a b; exact ⟨x, trivial, hr⟩⟩
theorem rn {P : Program} {total : Nat} : ReadsF P total [] total (fun _ : Unit => []) any := ReadsF.nil
theorem cI : Try.prog.cellsOf 3 = 1 := by kernel_rfl
theorem cStr : Try.prog.cellsOf 9 = 1 := by kernel_rfl
theorem cChg : Try.prog.cellsOf 43 = 2 := by kernel_rfl
theorem cChgs : Try.prog.cellsOf 37 = 1 := by kernel_rfl
theorem cSig : Try.prog.cellsOf 39 = 3 := by kernel_rfl
theorem cSigs : Try.prog.cellsOf 22 = 1 := by kernel_rfl
theorem cGap : Try.prog.cellsOf 71 = 2 := by kernel_rfl
theorem cGaps : Try.prog.cellsOf 23 = 1 := by kernel_rfl
theorem cWv : Try.prog.cellsOf 25 = 3 := by kernel_rfl
theorem cSp : Try.prog.cellsOf 56 = 3 := by kernel_rfl
theorem cSps : Try.prog.cellsOf 28 = 1 := by kernel_rfl
theorem rI : Reads Try.prog 3 (fun n : Int => I n) any := (Reads.int Try.underlying3 cI).map (fun n => n) (fun _ => rfl) (fun n => ⟨n, rfl⟩) fun _ _ => trivial
theorem rStr : Reads Try.prog 9 (fun s : Str => .str s) any := (Reads.str Try.underlying9 cStr).map (fun n => n) (fun _ => rfl) (fun n => ⟨n, rfl⟩) fun _ _ => trivial
theorem rsl {e t sz : Nat} {α : Type} [Inhabited α] {enc : α → D} (h : Reads Try.prog e enc any) (ht : Try.prog.underlying t = some (.slice e)) (hc : Try.prog.cellsOf t = 1) (hp : Try.prog.cellsOf e = sz) (h0 : 0 < sz) : Reads Try.prog t (fun es : List α => L es sz enc) any := by
  have h := Reads.slice h ht hc (by rw [hp]; exact h0)
  rw [hp] at h
  exact h.map (fun n => n) (fun _ => rfl) (fun n => ⟨n, rfl⟩) fun _ _ => trivial
theorem rChg : Reads Try.prog 43 Chg.d any := by
  refine (Reads.struct (ok := any) Try.underlying43 ?_).map (fun x : Int × Str × Unit => (⟨x.1, x.2.1⟩ : Chg)) (fun _ => rfl) (fun b => ⟨(b.time, b.val, ()), rfl⟩) fun _ _ => trivial
  rw [cChg]
  exact rc rI (rc rStr rn rfl rfl (by rw [cStr])) rfl rfl (by rw [cI])
theorem rSp : Reads Try.prog 56 Sp.d any := by
  refine (Reads.struct (ok := any) Try.underlying56 ?_).map (fun x : Int × Int × Str × Unit => (⟨x.1, x.2.1, x.2.2.1⟩ : Sp)) (fun _ => rfl) (fun b => ⟨(b.frm, b.to, b.val, ()), rfl⟩) fun _ _ => trivial
  rw [cSp]
  exact rc rI (rc rI (rc rStr rn rfl rfl (by rw [cStr])) rfl rfl (by rw [cI])) rfl rfl (by rw [cI])
theorem rGap : Reads Try.prog 71 Iv.d any := by
  refine (Reads.struct (ok := any) Try.underlying71 ?_).map (fun x : Int × Int × Unit => (⟨x.1, x.2.1⟩ : Iv)) (fun _ => rfl) (fun b => ⟨(b.frm, b.to, ()), rfl⟩) fun _ _ => trivial
  rw [cGap]
  exact rc rI (rc rI rn rfl rfl (by rw [cI])) rfl rfl (by rw [cI])
theorem rChgs : Reads Try.prog 37 (fun es : List Chg => L es 2 Chg.d) any := rsl rChg Try.underlying37 cChgs cChg (by decide)
theorem rSps : Reads Try.prog 28 (fun es : List Sp => L es 3 Sp.d) any := rsl rSp Try.underlying28 cSps cSp (by decide)
theorem rGaps : Reads Try.prog 23 (fun es : List Iv => L es 2 Iv.d) any := rsl rGap Try.underlying23 cGaps cGap (by decide)
theorem rSig : Reads Try.prog 39 Sig.d any := by
  refine (Reads.struct (ok := any) Try.underlying39 ?_).map (fun x : Int × Int × List Chg × Unit => (⟨x.1, x.2.1, x.2.2.1⟩ : Sig)) (fun _ => rfl) (fun b => ⟨(b.kind, b.width, b.chg, ()), rfl⟩) fun _ _ => trivial
  rw [cSig]
  exact rc rI (rc rI (rc rChgs rn rfl rfl (by rw [cChgs])) rfl rfl (by rw [cI])) rfl rfl (by rw [cI])
theorem rSigs : Reads Try.prog 22 (fun es : List Sig => L es 3 Sig.d) any := rsl rSig Try.underlying22 cSigs cSig (by decide)
theorem rWv : Reads Try.prog 25 Wv.d any := by
  refine (Reads.struct (ok := any) Try.underlying25 ?_).map (fun x : List Sig × List Iv × Int × Unit => (⟨x.1, x.2.1, x.2.2.1⟩ : Wv)) (fun _ => rfl) (fun b => ⟨(b.sig, b.gap, b.fin, ()), rfl⟩) fun _ _ => trivial
  rw [cWv]
  exact rc rSigs (rc rGaps (rc rI rn rfl rfl (by rw [cI])) rfl rfl (by rw [cGaps])) rfl rfl (by rw [cSigs])
theorem own : ownKnob Try.prog.godebug = none := by kernel_rfl
theorem laid : laidOutB Try.prog = true := by kernel_rfl
theorem trod_cons {P : Program} {H : Type} {en : TypeId × Value → H} {W : World} {b : Nat} {sp : Nat → Bool} {hd : Bool} {t : TypeId} {ts : List TypeId} {vs : List Value} {ds : List (DataW H)} {ps : List MemPlace} (h : DataW.TrodAll en P W b sp hd (t :: ts) vs ds ps) :
    ∃ v r d e p q, vs = v :: r ∧ ds = d :: e ∧ DataW.Trod en P W b sp hd t v d p ∧ DataW.TrodAll en P W b sp hd ts r e q := by
  cases vs with
  | nil => simp [DataW.TrodAll] at h
  | cons v r => cases ds with
    | nil => simp [DataW.TrodAll] at h
    | cons d e =>
      obtain ⟨p, q, h1, h2, _⟩ := h
      exact ⟨v, r, d, e, p, q, rfl, rfl, h1, h2⟩
theorem trod_nil {P : Program} {H : Type} {en : TypeId × Value → H} {W : World} {b : Nat} {sp : Nat → Bool} {hd : Bool} {vs : List Value} {ds : List (DataW H)} {ps : List MemPlace} (h : DataW.TrodAll en P W b sp hd [] vs ds ps) : vs = [] ∧ ds = [] := by
  cases vs with
  | nil => cases ds with
    | nil => exact ⟨rfl, rfl⟩
    | cons d e => simp [DataW.TrodAll] at h
  | cons v r => simp [DataW.TrodAll] at h
end Go.Proofs.Ytjajmmdnplgjmaa.S1
/- Seat 2: the law on Of's errors and calls. -/
namespace Go.Proofs.Ytjajmmdnplgjmaa.S1
open Go Go.Ab Go.Proofs
def lvRA : List (List Nat × List Nat) := [([1, 1, 0], [1, 2, 3, 4, 5])]
def lvRB : List (List Nat × List Nat) := [([1, 1, 1, 1, 1, 1, 0, 1, 0], [1, 2, 3, 4, 5, 12, 13, 14, 15, 79, 80, 81])]
def lvRC : List (List Nat × List Nat) := [([1, 1, 1, 1, 1, 1, 1, 1, 0], [1, 2, 3, 4, 5, 12, 14])]
theorem F4 : OkF 4 Try.f4 := ⟨by kernel_rfl, by kernel_rfl, by kernel_rfl⟩
def lv4 : List (List Nat × List Nat) := [([1, 1, 1, 1, 1, 1, 0, 1, 0], [1, 2, 3, 4, 5, 12, 13, 14, 15, 79, 80, 81])]
noncomputable def nRRas (w : Wv) : List Nat → Nat → Option Ans := scrAt [([1, 0, 0], 1, Ans.pure [w.d] (B (smB w))), ([1, 0, 1, 0, 0], 0, Ans.pure [] (B true))]
theorem nRRa (w : Wv) (sig frm to k : Int) (K : D → Prop) : runS (En Try.f4) (fi Try.f4 K) (nRRas w) lvRA 200 [.code []] ⟨argSlots 0 [w.d, I sig, I frm, I to, .int .u8 k], .empty⟩ =
  (PureW PP 9 [w.d] [w.d] (B (smB w)) ∧ (((!bif !smB w then true else decide (sig < 0)) = true → w.sig.length ≤ lenM) → ((!bif bif bif bif bif !smB w then true else decide (sig < 0) then true else decide (sig ≥ (↑w.sig.length : Int)) then true else decide (frm < 0) then true else decide (frm > to) then true else decide (to > w.fin)) = true → 0 ≤ sig ∧ sig < (↑w.sig.length : Int)) ∧ bif bif bif bif bif bif bif !smB w then true else decide (sig < 0) then true else decide (sig ≥ (↑w.sig.length : Int)) then true else decide (frm < 0) then true else decide (frm > to) then true else decide (to > w.fin) then true else (w.sig.getD sig.toNat default).kind == 3 then PureW PP 10 [] [] (B true) ∧ K (B true) else At (En Try.f4) (fi Try.f4 K) [It.code [1, 1, 0], It.code [1, 1, 1]] { sl := [(1, I sig), (2, I frm), (3, I to), (4, D.int IntKind.u8 k), (5, .own [L w.sig 3 Sig.d, L w.gap 2 Iv.d, I w.fin])], h := Heap.empty : St })) := by kernel_rfl
noncomputable def nRRbs (w : Wv) (sig : Int) (frm : Int) (to : Int) : List Nat → Nat → Option Ans := scrAt [([1, 1, 0], 1, Ans.eff (D.bp 0 0) (hM w (-1) 0)), ([1, 1, 1, 0], 5, Ans.eff (.tup [L (ofR w (-1) 0 sig frm to).fst 3 Sp.d, I (ofR w (-1) 0 sig frm to).snd.fst]) (hMn w (-1) (ofR w (-1) 0 sig frm to).snd.snd))]
theorem nRRb (w : Wv) (sig frm to k : Int) (K : D → Prop) : runS (En Try.f4) (fi Try.f4 K) (nRRbs w sig frm to) lvRB 200 [.code [1, 1, 0], .code [1, 1, 1]] ⟨[(1, I sig), (2, I frm), (3, I to), (4, .int .u8 k), (5, .own [L w.sig 3 Sig.d, L w.gap 2 Iv.d, I w.fin])], .empty⟩ =
  (Does PP 12 [.agg [L w.sig 3 Sig.d, L w.gap 2 Iv.d, I w.fin]] Heap.empty (D.bp 0 0) (hM w (-1) 0) ∧ Does PP 11 [D.iface 32 (D.bp 0 0), I sig, I frm, I to] { box := upd (fun _ => none) 0 (some (Row.lit [L w.sig 3 Sig.d, L w.gap 2 Iv.d, I w.fin, I (-1), I 0])), nl := 1, hw := fun _ => none, nt := 0, vw := fun _ => none : Heap } (.tup [L (ofR w (-1) 0 sig frm to).fst 3 Sp.d, I (ofR w (-1) 0 sig frm to).snd.fst]) (hMn w (-1) (ofR w (-1) 0 sig frm to).snd.snd) ∧ (0 ≤ sig ∧ sig < (↑w.sig.length : Int)) ∧ ((w.sig.getD sig.toNat default).chg.length ≤ lenM → At (En Try.f4) (fi Try.f4 K) [It.code [1, 1, 1, 1, 1, 1, 0, 1, 0], It.blk 0, It.code [1, 1, 1, 1, 1, 1, 1]] { sl := [(1, I sig), (2, I frm), (3, I to), (4, D.int IntKind.u8 k), (5, .own [L w.sig 3 Sig.d, L w.gap 2 Iv.d, I w.fin]), (12, L (ofR w (-1) 0 sig frm to).fst 3 Sp.d), (13, I (ofR w (-1) 0 sig frm to).snd.fst), (14, I (ofR w (-1) 0 sig frm to).snd.snd), (15, I 0), (79, L (w.sig.getD sig.toNat default).chg 2 Chg.d), (80, I (↑(w.sig.getD sig.toNat default).chg.length : Int)), (81, I 0)], h := { box := upd (fun _ => none) 0 (some (Row.lit [L w.sig 3 Sig.d, L w.gap 2 Iv.d, I w.fin, I (-1), I (ofR w (-1) 0 sig frm to).snd.snd])), nl := 4, hw := fun _ => none, nt := 1, vw := fun _ => none : Heap } : St })) := by kernel_rfl
def hR : Heap := ⟨fun _ => none, 4, fun _ => none, 1, fun _ => none⟩
def SRR (w : Wv) (sig frm to k : Int) (out : List Sp) (e n c : Int) (ls : List Chg) (i : Int) : St := ⟨[(1, I sig), (2, I frm), (3, I to), (4, .int .u8 k), (5, .own [L w.sig 3 Sig.d, L w.gap 2 Iv.d, I w.fin]), (12, L out 3 Sp.d), (13, I e), (14, I n), (15, I c), (79, L ls 2 Chg.d), (80, I ls.length), (81, I i)], hR⟩
noncomputable def nRRcs  : List Nat → Nat → Option Ans := scrAt []
theorem nRRc (w : Wv) (sig frm to k : Int) (out : List Sp) (e n c : Int) (ls : List Chg) (i : Int) (J : St → Prop) (K : D → Prop) : runS (En Try.f4) (fi Try.f4 K) (nRRcs ) lvRC 200 [.code [1, 1, 1, 1, 1, 1, 0, 1, 0, 0], stp [1, 2, 3, 4, 5, 12, 13, 14, 15, 79, 80, 81] J, .blk 0, .code [1, 1, 1, 1, 1, 1, 1]] (SRR w sig frm to k out e n c ls i) =
  (bif decide (i < (↑ls.length : Int)) then (0 ≤ i ∧ i < (↑ls.length : Int)) ∧ True ∧ bif bif decide ((ls.getD i.toNat default).time > frm) then decide ((ls.getD i.toNat default).time ≤ to) else false then J { sl := [(1, I sig), (2, I frm), (3, I to), (4, D.int IntKind.u8 k), (5, .own [L w.sig 3 Sig.d, L w.gap 2 Iv.d, I w.fin]), (12, L out 3 Sp.d), (13, I e), (14, I n), (15, I (addI .i64 c 1)), (79, L ls 2 Chg.d), (80, I (↑ls.length : Int)), (81, I (addI .i64 i 1))], h := { box := fun _ => none, nl := 4, hw := fun _ => none, nt := 1, vw := fun _ => none : Heap } : St } else J { sl := [(1, I sig), (2, I frm), (3, I to), (4, D.int IntKind.u8 k), (5, .own [L w.sig 3 Sig.d, L w.gap 2 Iv.d, I w.fin]), (12, L out 3 Sp.d), (13, I e), (14, I n), (15, I c), (79, L ls 2 Chg.d), (80, I (↑ls.length : Int)), (81, I (addI .i64 i 1))], h := { box := fun _ => none, nl := 4, hw := fun _ => none, nt := 1, vw := fun _ => none : Heap } : St } else bif bif e != 0 then true else decide (n > addI .i64 c 3) then K (B false) else At (En Try.f4) (fi Try.f4 K) [It.code [1, 1, 1, 1, 1, 1, 1, 1, 0], It.code [1, 1, 1, 1, 1, 1, 1, 1, 1]] { sl := [(1, I sig), (2, I frm), (3, I to), (4, D.int IntKind.u8 k), (5, .own [L w.sig 3 Sig.d, L w.gap 2 Iv.d, I w.fin]), (12, L out 3 Sp.d), (14, I n)], h := { box := fun _ => none, nl := 4, hw := fun _ => none, nt := 1, vw := fun _ => none : Heap } : St }) := by kernel_rfl
noncomputable def nRRds (w : Wv) (sig : Int) (frm : Int) (to : Int) (k : Int) (out : List Sp) : List Nat → Nat → Option Ans := scrAt [([1, 1, 1, 1, 1, 1, 1, 1, 0], 1, Ans.eff (ren (rnm [] 4) (rnm [] 1) (D.bp 0 0)) (frameH [] [] { box := fun _ => none, nl := 4, hw := fun _ => none, nt := 1, vw := fun _ => none : Heap } (hM w (-1) 0))), ([1, 1, 1, 1, 1, 1, 1, 1, 1, 1, 0], 5, Ans.eff (ren (rnm [4] 5) (rnm [] 1) (.tup [L (ofR w (IntKind.i64.wrap (k.tmod 32)) 0 sig frm to).fst 3 Sp.d, I (ofR w (IntKind.i64.wrap (k.tmod 32)) 0 sig frm to).snd.fst])) (frameH [4] [] { box := upd (upd (fun _ => none) 4 (some (Row.lit [L w.sig 3 Sig.d, L w.gap 2 Iv.d, I w.fin, I (-1), I 0]))) 4 (some (Row.lit [L w.sig 3 Sig.d, L w.gap 2 Iv.d, I w.fin, I (IntKind.i64.wrap (k.tmod 32)), I 0])), nl := 5, hw := fun _ => none, nt := 1, vw := fun _ => none : Heap } (hMn w (IntKind.i64.wrap (k.tmod 32)) (ofR w (IntKind.i64.wrap (k.tmod 32)) 0 sig frm to).snd.snd))), ([1, 1, 1, 1, 1, 1, 1, 1, 1, 1, 1, 0, 1, 0, 0], 5, Ans.pure [L out 3 Sp.d, L out 3 Sp.d] (B true)), ([1, 1, 1, 1, 1, 1, 1, 1, 1, 1, 1, 0, 1, 0, 0], 8, Ans.pure [] (B true)), ([1, 1, 1, 1, 1, 1, 1, 1, 1, 1, 1, 1, 0], 8, Ans.pure [] (B true))]
theorem nRRd (w : Wv) (sig frm to k : Int) (out : List Sp) (n : Int) (K : D → Prop) : runS (En Try.f4) (fi Try.f4 K) (nRRds w sig frm to k out) nolv 200 [.code [1, 1, 1, 1, 1, 1, 1, 1, 0], .code [1, 1, 1, 1, 1, 1, 1, 1, 1]] ⟨[(1, I sig), (2, I frm), (3, I to), (4, .int .u8 k), (5, .own [L w.sig 3 Sig.d, L w.gap 2 Iv.d, I w.fin]), (12, L out 3 Sp.d), (14, I n)], hR⟩ =
  (Does PP 12 [.agg [L w.sig 3 Sig.d, L w.gap 2 Iv.d, I w.fin]] { box := fun _ => none, nl := 4, hw := fun _ => none, nt := 1, vw := fun _ => none : Heap } (ren (rnm [] 4) (rnm [] 1) (D.bp 0 0)) (frameH [] [] { box := fun _ => none, nl := 4, hw := fun _ => none, nt := 1, vw := fun _ => none : Heap } (hM w (-1) 0)) ∧
  (32 : Int) ≠ 0 ∧
    True ∧
      Does PP 11 [D.iface 32 (D.bp 4 0), I sig, I frm, I to] { box := upd (upd (fun _ => none) 4 (some (Row.lit [L w.sig 3 Sig.d, L w.gap 2 Iv.d, I w.fin, I (-1), I 0]))) 4 (some (Row.lit [L w.sig 3 Sig.d, L w.gap 2 Iv.d, I w.fin, I (IntKind.i64.wrap (k.tmod 32)), I 0])), nl := 5, hw := fun _ => none, nt := 1, vw := fun _ => none : Heap } (ren (rnm [4] 5) (rnm [] 1) (.tup [L (ofR w (IntKind.i64.wrap (k.tmod 32)) 0 sig frm to).fst 3 Sp.d, I (ofR w (IntKind.i64.wrap (k.tmod 32)) 0 sig frm to).snd.fst])) (frameH [4] [] { box := upd (upd (fun _ => none) 4 (some (Row.lit [L w.sig 3 Sig.d, L w.gap 2 Iv.d, I w.fin, I (-1), I 0]))) 4 (some (Row.lit [L w.sig 3 Sig.d, L w.gap 2 Iv.d, I w.fin, I (IntKind.i64.wrap (k.tmod 32)), I 0])), nl := 5, hw := fun _ => none, nt := 1, vw := fun _ => none : Heap } (hMn w (IntKind.i64.wrap (k.tmod 32)) (ofR w (IntKind.i64.wrap (k.tmod 32)) 0 sig frm to).snd.snd)) ∧
        bif decide (IntKind.i64.wrap (k.tmod 32) ≥ n) then (((ofR w (IntKind.i64.wrap (k.tmod 32)) 0 sig frm to).snd.fst == 0) = true → PureW PP 14 [L (ofR w (IntKind.i64.wrap (k.tmod 32)) 0 sig frm to).fst 3 Sp.d, L out 3 Sp.d] [L out 3 Sp.d, L out 3 Sp.d] (B true)) ∧ ((bif (ofR w (IntKind.i64.wrap (k.tmod 32)) 0 sig frm to).snd.fst == 0 then true else false) = true → PureW PP 10 [] [] (B true)) ∧ K (B (bif bif (ofR w (IntKind.i64.wrap (k.tmod 32)) 0 sig frm to).snd.fst == 0 then true else false then true else false)) else (((ofR w (IntKind.i64.wrap (k.tmod 32)) 0 sig frm to).snd.fst == 14) = true → (ofR w (IntKind.i64.wrap (k.tmod 32)) 0 sig frm to).fst.length ≤ lenM) → ((bif (ofR w (IntKind.i64.wrap (k.tmod 32)) 0 sig frm to).snd.fst == 14 then (↑(ofR w (IntKind.i64.wrap (k.tmod 32)) 0 sig frm to).fst.length : Int) == 0 else false) = true → PureW PP 10 [] [] (B true)) ∧ K (B (bif bif (ofR w (IntKind.i64.wrap (k.tmod 32)) 0 sig frm to).snd.fst == 14 then (↑(ofR w (IntKind.i64.wrap (k.tmod 32)) 0 sig frm to).fst.length : Int) == 0 else false then true else false))) := by kernel_rfl
/-- The guards. -/
theorem ask_of {w : Wv} {sig frm to : Int} (h : (bif bif bif bif bif bif !smB w then true else decide (sig < 0) then true else decide (sig ≥ (w.sig.length : Int)) then true else decide (frm < 0) then true else decide (frm > to) then true else decide (to > w.fin) then true else (w.sig.getD sig.toNat default).kind == 3) = false) : SmOk w ∧ Ask w sig frm to := by
  simp only [Bool.cond_true_left, Bool.or_eq_false_iff, decide_eq_false_iff_not, Bool.not_eq_false', beq_eq_false_iff_ne] at h
  obtain ⟨⟨⟨⟨⟨⟨h1, h2⟩, h3⟩, h4⟩, h5⟩, h6⟩, h7⟩ := h
  exact ⟨smB_ok h1, ⟨by omega, by omega⟩, h7, by omega, by omega, by omega⟩
theorem ask_in {w : Wv} {sig frm to : Int} (h : (!bif bif bif bif bif !smB w then true else decide (sig < 0) then true else decide (sig ≥ (w.sig.length : Int)) then true else decide (frm < 0) then true else decide (frm > to) then true else decide (to > w.fin)) = true) : 0 ≤ sig ∧ sig < (w.sig.length : Int) := by
  simp only [Bool.cond_true_left, Bool.not_eq_true', Bool.or_eq_false_iff, decide_eq_false_iff_not, Bool.not_eq_false'] at h
  obtain ⟨⟨⟨⟨⟨h1, h2⟩, h3⟩, h4⟩, h5⟩, h6⟩ := h
  omega
theorem ask_len {w : Wv} {sig : Int} (h : (!bif !smB w then true else decide (sig < 0)) = true) : w.sig.length ≤ lenM := by
  simp only [Bool.cond_true_left, Bool.not_eq_true', Bool.or_eq_false_iff, decide_eq_false_iff_not, Bool.not_eq_false'] at h
  have := (smB_ok h.1).len
  unfold lenM; omega
theorem c4 (w : Wv) (sig frm to k : Int) (hk : 0 ≤ k) : Pure PP 4 [w.d, I sig, I frm, I to, .int .u8 k] (B true) := by
  refine pu F4 (by kernel_rfl) (of_eq (nRRa w sig frm to k _) ⟨PureW.mk (c9 _), fun _ => ⟨ask_in, cond_intro (fun _ => ⟨PureW.mk c10, Wk.refl _⟩) fun h => ?_⟩⟩)
  obtain ⟨hw, ha⟩ := ask_of h
  obtain ⟨q1, _, q3⟩ := hw.at ha.hsig
  obtain ⟨hO, _⟩ := ofR_ask hw (lim := -1) ha
  have hO := hO (.inl (by omega))
  refine runS_sound hmix _ _ _ (of_eq (nRRb w sig frm to k _) ⟨e12 w, e11 hw.of 0, ha.hsig, fun hl => ?_⟩)
  rw [hO]
  simp only
  generalize hout : codeL (sigAt (sigOf w sig) frm) (cut (sigOf w sig).chg frm to) frm to = out at hO
  generalize hn : ofN w sig frm to = n at hO
  have hn' : n = (cut (sigOf w sig).chg frm to).length + 3 := hn.symm
  have hls : (w.sig.getD sig.toNat default).chg = (sigOf w sig).chg := rfl
  rw [hls] at hl ⊢
  have hcl : (cut (sigOf w sig).chg frm to).length ≤ (sigOf w sig).chg.length := List.length_filter_le _ _
  generalize hce : (sigOf w sig).chg = ls at hl q1 q3 hcl hn' ⊢
  refine at_le (st' := SRR w sig frm to k out 0 n (0 : Nat) ls (0 : Nat)) ?_ (StLe.heapLe ?_)
  rotate_left
  · exact ⟨fun l row' e => (by cases e), Nat.le_refl _, fun t n e => (by cases e), Nat.le_refl _, fun t n e => (by cases e), fun _ h => h⟩
  refine lp (fn := Try.f4) (fun z : Nat × Nat => z.1 ≤ ls.length ∧ z.2 ≤ z.1 ∧ (cut ls frm to).length = z.2 + (cut (ls.drop z.1) frm to).length) (fun z => SRR w sig frm to k out 0 n z.2 ls z.1) (fun z => ls.length - z.1) [1, 2, 3, 4, 5, 12, 13, 14, 15, 79, 80, 81] (by kernel_rfl) (fun z hz => of_eq (nRRc w sig frm to k out 0 n z.2 ls z.1 _ _) ?_) (0, 0) ⟨Nat.zero_le _, Nat.le_refl _, by simp⟩
  obtain ⟨i, c⟩ := z
  obtain ⟨hi, hc0, hc⟩ := hz
  simp only at hi hc0 hc ⊢
  refine cond_intro (fun hlt => ?_) fun hge => ?_
  · have hlt := ltI hlt
    rw [add1 hlt hl, Int.toNat_natCast]
    rw [drop_cons _ _ hlt] at hc
    unfold cut at hc
    rw [List.filter_cons] at hc
    have hb : (bif decide ((ls.getD i default).time > frm) then decide ((ls.getD i default).time ≤ to) else false) = (decide ((ls.getD i default).time > frm) && decide ((ls.getD i default).time ≤ to)) := by
      cases decide ((ls.getD i default).time > frm) <;> rfl
    rw [hb]
    refine ⟨⟨by omega, by omega⟩, trivial, cond_intro (fun h => ?_) fun h => ?_⟩
    · rw [if_pos h] at hc
      have : addI .i64 (c : Int) 1 = ((c + 1 : Nat) : Int) := by rw [add64 (by omega) (by omega)]; rfl
      rw [this]
      exact Nx.mk (i + 1, c + 1) ⟨hlt, by simp only; omega, by rw [List.length_cons] at hc; unfold cut; simp only; omega⟩ (by simp only; omega)
    · rw [if_neg (by rw [h]; simp)] at hc
      exact Nx.mk (i + 1, c) ⟨hlt, by simp only; omega, by unfold cut; exact hc⟩ (by simp only; omega)
  · rw [List.drop_of_length_le (geI hge)] at hc
    have hc' : (cut ls frm to).length = c := by rw [hc]; simp [cut]
    have ha3 : addI .i64 (c : Int) 3 = (c : Int) + 3 := add64 (by omega) (by omega)
    rw [ha3, decide_eq_false (show ¬ n > (c : Int) + 3 by omega)]
    simp only [bne_self_eq_false, cond_false]
    have hkm : IntKind.wrap .i64 (k.tmod 32) = k.tmod 32 := IntWalk.i64_in _ ⟨by have := Int.tmod_lt_of_pos k (show (0 : Int) < 32 by omega); have := Int.tmod_nonneg 32 hk; omega, by have := Int.tmod_lt_of_pos k (show (0 : Int) < 32 by omega); omega⟩
    have hk0 : 0 ≤ k.tmod 32 := Int.tmod_nonneg 32 hk
    refine runS_sound hmix _ _ _ (of_eq (nRRd w sig frm to k out n _) ⟨fr (e12 w) [] [], by decide, trivial, fr (e11 hw.of 0) [4] [], ?_⟩)
    rw [hkm]
    generalize k.tmod 32 = lim at hk0
    obtain ⟨h1, h2⟩ := ofR_ask hw (lim := lim) ha
    rw [hn, hout] at h1
    rw [hn] at h2
    refine cond_intro (fun h => ?_) fun h => ?_
    · have h : lim ≥ n := of_decide_eq_true h
      rw [h1 (.inr h)]
      exact ⟨fun _ => PureW.mk (c14 _), fun _ => PureW.mk c10, Wk.refl _⟩
    · have h : ¬ lim ≥ n := of_decide_eq_false h
      obtain ⟨g1, g2⟩ := h2 (by omega)
      rw [g1, g2]
      exact fun _ => ⟨fun _ => PureW.mk c10, Wk.refl _⟩
end Go.Proofs.Ytjajmmdnplgjmaa.S1
