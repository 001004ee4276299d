/- Seat 2: what Of answers, by the reference; the law on Of. -/
import Derived.Test.YtjajmmdnplgjmaaCE2
import Derived.Test.YtjajmmdnplgjmaaRows
namespace Go.Proofs.Ytjajmmdnplgjmaa.S1
open Go Go.Ab Go.Proofs
theorem over_eq {lim c : Int} (h0 : 0 ≤ c) (h : c ≤ 1000000) : over lim c = decide (lim ≥ 0 ∧ c + 1 > lim) := by
  unfold over
  rw [add64 (by omega) (by omega)]
  by_cases h1 : lim ≥ 0
  · rw [decide_eq_true h1]; simp [h1]
  · rw [decide_eq_false h1]; simp [h1]
theorem cut_cons {at_ to : Int} {x : Chg} {l : List Chg} (h : Inc at_ (x :: l)) (ht : x.time ≤ to) : cut (x :: l) at_ to = x :: cut l x.time to := by
  obtain ⟨h1, h2⟩ := h
  have hgt := Inc.gt h2
  simp only [cut, List.filter_cons, decide_eq_true (show x.time > at_ by omega), decide_eq_true ht, Bool.and_self, if_true]
  congr 1
  refine List.filter_congr fun y hy => ?_
  have := hgt y hy
  rw [decide_eq_true (show y.time > at_ by omega), decide_eq_true (show y.time > x.time by omega)]
theorem cut_stop {at_ to : Int} {x : Chg} {l : List Chg} (h : Inc at_ (x :: l)) (ht : x.time > to) : cut (x :: l) at_ to = [] := by
  unfold cut
  rw [List.filter_eq_nil_iff]
  intro y hy
  have : to < y.time := by
    rcases List.mem_cons.1 hy with rfl | hy
    · exact ht
    · have := Inc.gt h.2 y hy; omega
  simp; omega
/-- The rounds: all of them, or the source's error. -/
theorem itR_plain (to lim : Int) : ∀ (b : List Chg) (at_ c : Int) (out : List Sp), Inc at_ b → 0 ≤ c → c + b.length ≤ 999999 →
    ((lim < 0 ∨ c + (cut b at_ to).length + 1 ≤ lim) → itR lim to b c out = ((cut b at_ to).foldl (fun o x => addS o x.time x.val) out, c + (cut b at_ to).length + 1, 0)) ∧
    (¬ (lim < 0 ∨ c + (cut b at_ to).length + 1 ≤ lim) → (itR lim to b c out).2.2 = 14)
  | [], at_, c, out, _, h0, hl => by
    simp only [List.length_nil] at hl
    have ho := over_eq (lim := lim) h0 (by omega)
    have ha : addI .i64 c 1 = c + 1 := add64 (by omega) (by omega)
    simp only [itR, ha, ho, cut, List.filter_nil, List.length_nil, List.foldl_nil]
    refine ⟨fun h => ?_, fun h => ?_⟩
    · rw [decide_eq_false (by omega)]; simp
    · rw [decide_eq_true (by omega)]; rfl
  | x :: l, at_, c, out, hi, h0, hl => by
    simp only [List.length_cons] at hl
    have ho := over_eq (lim := lim) h0 (by omega)
    have ha : addI .i64 c 1 = c + 1 := add64 (by omega) (by omega)
    have hi2 := hi
    obtain ⟨h1, h2⟩ := hi2
    simp only [itR, ha, ho]
    by_cases ht : x.time > to
    · rw [cut_stop hi ht, decide_eq_true ht]
      simp only [List.length_nil, List.foldl_nil, cond_true]
      refine ⟨fun h => ?_, fun h => ?_⟩
      · rw [decide_eq_false (by omega)]; simp
      · rw [decide_eq_true (by omega)]; rfl
    · rw [cut_cons hi (by omega), decide_eq_false ht]
      simp only [List.length_cons, List.foldl_cons, cond_false]
      have ih := itR_plain to lim l x.time (c + 1) (addS out x.time x.val) h2 (by omega) (by omega)
      refine ⟨fun h => ?_, fun h => ?_⟩
      · rw [decide_eq_false (by omega)]
        simp only [cond_false]
        rw [ih.1 (by omega)]
        congr 2
        push_cast; omega
      · by_cases hc : lim ≥ 0 ∧ c + 1 > lim
        · rw [decide_eq_true hc]; rfl
        · rw [decide_eq_false hc]
          simp only [cond_false]
          exact ih.2 (by omega)
theorem cut_aft (l : List Chg) (frm to : Int) : cut (aft l frm) frm to = cut l frm to := by
  unfold cut aft
  rw [List.filter_filter]
  refine List.filter_congr fun x _ => ?_
  cases decide (x.time > frm) <;> simp
theorem aft_len (l : List Chg) (frm : Int) : (aft l frm).length ≤ l.length := List.length_filter_le _ _
/-- A question within the wave. -/
structure Ask (w : Wv) (sig frm to : Int) : Prop where
  hsig : 0 ≤ sig ∧ sig < (w.sig.length : Int)
  hkind : (sigOf w sig).kind ≠ 3
  hfrm : 0 ≤ frm
  hle : frm ≤ to
  hto : to ≤ w.fin
theorem SmOk.at {w : Wv} (h : SmOk w) {sig : Int} (hs : 0 ≤ sig ∧ sig < (w.sig.length : Int)) : (sigOf w sig).chg.length ≤ 20 ∧ (sigOf w sig).width ≤ 64 ∧ Inc (-1) (sigOf w sig).chg := by
  have : sig.toNat < w.sig.length := by omega
  refine h.sig _ ?_
  unfold sigOf
  rw [List.getD_eq_getElem?_getD, List.getElem?_eq_getElem this]
  exact List.getElem_mem this
/-- How many calls of the source Of makes. -/
def ofN (w : Wv) (sig frm to : Int) : Int := (cut (sigOf w sig).chg frm to).length + 3
theorem ofR_ask {w : Wv} (hw : SmOk w) {sig frm to lim : Int} (a : Ask w sig frm to) :
    ((lim < 0 ∨ ofN w sig frm to ≤ lim) → ofR w lim 0 sig frm to = (codeL (sigAt (sigOf w sig) frm) (cut (sigOf w sig).chg frm to) frm to, 0, ofN w sig frm to)) ∧
    (¬ (lim < 0 ∨ ofN w sig frm to ≤ lim) → (ofR w lim 0 sig frm to).1 = [] ∧ (ofR w lim 0 sig frm to).2.1 = 14) := by
  obtain ⟨hs, hk, h0, h1, h2⟩ := a
  obtain ⟨q1, _, q3⟩ := hw.at hs
  have e1 : addI .i64 0 1 = 1 := rfl
  have e2 : addI .i64 1 1 = 2 := rfl
  unfold ofR
  rw [if_neg (by omega), callR_ok hs, e1, callR_ok hs, e2, over_eq (by omega) (by omega), over_eq (by omega) (by omega), if_neg hk]
  obtain ⟨_, _, _, e3⟩ := q3.aft frm
  have hl := aft_len (sigOf w sig).chg frm
  have ih := itR_plain to lim (aft (sigOf w sig).chg frm) frm 2 [⟨frm, 0, sigAt (sigOf w sig) frm⟩] e3 (by omega) (by omega)
  rw [cut_aft] at ih
  unfold ofN
  refine ⟨fun h => ?_, fun h => ?_⟩
  · rw [decide_eq_false (by omega), decide_eq_false (by omega)]
    simp only [cond_false, ne_eq, not_true_eq_false, if_false]
    rw [ih.1 (by omega)]
    simp only [not_true_eq_false, if_false]
    unfold codeL
    congr 2
    omega
  · by_cases g1 : lim ≥ 0 ∧ 0 + 1 > lim
    · rw [decide_eq_true g1]
      exact ⟨rfl, rfl⟩
    rw [decide_eq_false g1]
    simp only [cond_false, ne_eq, not_true_eq_false, if_false]
    by_cases g2 : lim ≥ 0 ∧ 1 + 1 > lim
    · rw [decide_eq_true g2]
      exact ⟨rfl, rfl⟩
    rw [decide_eq_false g2]
    simp only [cond_false, not_true_eq_false, if_false]
    have := ih.2 (by omega)
    rw [if_pos (by rw [this]; decide)]
    exact ⟨rfl, this⟩
theorem srt_inc : ∀ {l : List Chg} {t : Int} {p : Option Chg}, Inc t l → (match p with | none => True | some y => y.time ≤ t) → srt p l = true
  | [], _, _, _, _ => rfl
  | x :: r, t, p, ⟨h1, h2⟩, hp => by
    simp only [srt, Bool.and_eq_true]
    refine ⟨?_, srt_inc (p := some x) h2 (Int.le_refl _)⟩
    cases p with
    | none => rfl
    | some y => simp only at hp; simp; omega
theorem ofR_rOf {w : Wv} (hw : SmOk w) {sig frm to : Int} : (ofR w (-1) 0 sig frm to).1 = (rOf w sig frm to).1 ∧ (ofR w (-1) 0 sig frm to).2.1 = (rOf w sig frm to).2 := by
  unfold rOf
  by_cases hr : frm ≥ 0 ∧ frm ≤ to ∧ to ≤ w.fin
  · rw [if_pos hr]
    by_cases hs : 0 ≤ sig ∧ sig < (w.sig.length : Int)
    · rw [if_pos hs]
      by_cases hk : (sigOf w sig).kind = 3
      · rw [if_pos hk]
        unfold ofR
        rw [if_neg (by omega), callR_ok hs, over_eq (by omega) (by omega), decide_eq_false (by omega)]
        simp only [cond_false, ne_eq, not_true_eq_false, if_false]
        rw [if_pos hk]
        exact ⟨rfl, rfl⟩
      · rw [if_neg hk]
        have ha := (ofR_ask hw (lim := -1) ⟨hs, hk, hr.1, hr.2.1, hr.2.2⟩).1 (.inl (by omega))
        rw [ha]
        obtain ⟨q1, _, q3⟩ := hw.at hs
        unfold rfcR
        rw [if_pos ⟨hr.1, hr.2.1, by have := hw.fin.2; omega⟩, if_pos (srt_inc q3 trivial)]
        refine ⟨?_, rfl⟩
        simp only
        rw [refL_code q3 _ hr.2.1]
        unfold sigAt
        rw [if_neg hk]
    · rw [if_neg hs]
      unfold ofR
      have : callR w (-1) 0 sig = 2 := by
        unfold callR
        rw [show decide ((-1 : Int) ≥ 0) = false from rfl]
        simp only [cond_false]
        by_cases h1 : sig < 0
        · rw [decide_eq_true h1]; rfl
        · rw [decide_eq_false h1, decide_eq_true (show sig ≥ (w.sig.length : Int) by omega)]; rfl
      rw [if_neg (by omega), this]
      simp
  · rw [if_neg hr]
    unfold ofR
    rw [if_pos (by omega)]
    exact ⟨rfl, rfl⟩
theorem SmOk.of {w : Wv} (h : SmOk w) : ∀ q ∈ w.sig, q.chg.length ≤ 900 ∧ q.width ≤ 1000000 ∧ Inc (-1) q.chg := fun q hq => by
  obtain ⟨h1, h2, h3⟩ := h.sig q hq
  exact ⟨by omega, by omega, h3⟩
theorem F3 : OkF 3 Try.f3 := ⟨by kernel_rfl, by kernel_rfl, by kernel_rfl⟩
def lv3 : List (List Nat × List Nat) := []
noncomputable def nLOfs (w : Wv) (sig : Int) (frm : Int) (to : Int) : List Nat → Nat → Option Ans := scrAt [([1, 0, 0], 1, Ans.pure [w.d] (B (smB w))), ([1, 0, 1, 0, 0], 0, Ans.pure [] (B true)), ([1, 1, 0], 1, Ans.eff (D.bp 0 0) (hM w (-1) 0)), ([1, 1, 0], 6, Ans.eff (.tup [L (ofR w (-1) 0 sig frm to).fst 3 Sp.d, I (ofR w (-1) 0 sig frm to).snd.fst]) (hMn w (-1) (ofR w (-1) 0 sig frm to).snd.snd)), ([1, 1, 1, 0], 4, Ans.pure [w.d, I sig, I frm, I to] (.tup [L (rOf w sig frm to).fst 3 Sp.d, I (rOf w sig frm to).snd])), ([1, 1, 1, 1, 0], 6, Ans.pure [L (rOf w sig frm to).fst 3 Sp.d, L (rOf w sig frm to).fst 3 Sp.d] (B true)), ([1, 1, 1, 1, 0], 9, Ans.pure [] (B true))]
theorem nLOf (w : Wv) (sig frm to : Int) (K : D → Prop) : runS (En Try.f3) (fi Try.f3 K) (nLOfs w sig frm to) lv3 200 [.code []] ⟨argSlots 0 [w.d, I sig, I frm, I to], .empty⟩ =
  (PureW PP 9 [w.d] [w.d] (B (smB w)) ∧ bif !smB w then PureW PP 10 [] [] (B true) ∧ K (B true) else Does PP 12 [.agg [L w.sig 3 Sig.d, L w.gap 2 Iv.d, I w.fin]] Heap.empty (D.bp 0 0) (hM w (-1) 0) ∧ Does PP 11 [D.iface 32 (D.bp 0 0), I sig, I frm, I to] { box := upd (fun _ => none) 0 (some (Row.lit [L w.sig 3 Sig.d, L w.gap 2 Iv.d, I w.fin, I (-1), I 0])), nl := 1, hw := fun _ => none, nt := 0, vw := fun _ => none : Heap } (.tup [L (ofR w (-1) 0 sig frm to).fst 3 Sp.d, I (ofR w (-1) 0 sig frm to).snd.fst]) (hMn w (-1) (ofR w (-1) 0 sig frm to).snd.snd) ∧ PureW PP 13 [w.d, I sig, I frm, I to] [w.d, I sig, I frm, I to] (.tup [L (rOf w sig frm to).fst 3 Sp.d, I (rOf w sig frm to).snd]) ∧ (((ofR w (-1) 0 sig frm to).snd.fst == (rOf w sig frm to).snd) = true → PureW PP 14 [L (ofR w (-1) 0 sig frm to).fst 3 Sp.d, L (rOf w sig frm to).fst 3 Sp.d] [L (rOf w sig frm to).fst 3 Sp.d, L (rOf w sig frm to).fst 3 Sp.d] (B true)) ∧ ((bif (ofR w (-1) 0 sig frm to).snd.fst == (rOf w sig frm to).snd then true else false) = true → PureW PP 10 [] [] (B true)) ∧ K (B (bif bif (ofR w (-1) 0 sig frm to).snd.fst == (rOf w sig frm to).snd then true else false then true else false))) := by kernel_rfl
theorem c3 (w : Wv) (sig frm to : Int) : Pure PP 3 [w.d, I sig, I frm, I to] (B true) := by
  refine pu F3 (by kernel_rfl) (of_eq (nLOf w sig frm to _) ⟨PureW.mk (c9 _), cond_intro (fun _ => ⟨PureW.mk c10, Wk.refl _⟩) fun h => ?_⟩)
  have hw := smB_ok (w := w) (by simpa using h)
  obtain ⟨h1, h2⟩ := ofR_rOf hw (sig := sig) (frm := frm) (to := to)
  refine ⟨e12 w, e11 hw.of 0, PureW.mk (c13 w sig frm to fun q hq => ⟨(hw.sig q hq).1, (hw.sig q hq).2.1⟩), fun _ => ?_, fun _ => PureW.mk c10, ?_⟩
  · rw [h1]; exact PureW.mk (c14 _)
  · rw [h2]; simp only [beq_self_eq_true, cond_true]; exact Wk.refl _
end Go.Proofs.Ytjajmmdnplgjmaa.S1
/- Seat 2: the arguments read. -/
namespace Go.Proofs.Ytjajmmdnplgjmaa.S1
open Go Go.Ab Go.Proofs
open Go.ChangeShapes Go.WideShapes Go.ChangeAt Go.RowKit Go.Joins

abbrev any {α : Type} : α → Prop := fun _ => True
theorem rc {P : Program} {total : Nat} {f : Field} {fs : List Field} {off off' t : Nat} {α β : Type} {enc : α → D} {encF : β → List D} (h : Reads P t enc any) (k : ReadsF P total fs off' encF any) (ht : f.type = t) (ho : f.offset = off) (hs : off + P.cellsOf t = off') :
    ReadsF P total (f :: fs) off (fun x : α × β => cellsD (enc x.1) ++ encF x.2) any := by
  subst ht; subst hs
  have hc := ReadsF.cons h k ho
  exact ⟨hc.size, hc.ones, hc.data, fun a b => by obtain ⟨x, _, hr⟩ := hc.it a b; exact ⟨x, trivial, hr⟩⟩
theorem rn {P : Program} {total : Nat} : ReadsF P total [] total (fun _ : Unit => []) any := ReadsF.nil
theorem cI : Try.prog.cellsOf 3 = 1 := by kernel_rfl
theorem cStr : Try.prog.cellsOf 9 = 1 := by kernel_rfl
theorem cChg : Try.prog.cellsOf 43 = 2 := by kernel_rfl
theorem cChgs : Try.prog.cellsOf 37 = 1 := by kernel_rfl
theorem cSig : Try.prog.cellsOf 39 = 3 := by kernel_rfl
theorem cSigs : Try.prog.cellsOf 22 = 1 := by kernel_rfl
theorem cGap : Try.prog.cellsOf 71 = 2 := by kernel_rfl
theorem cGaps : Try.prog.cellsOf 23 = 1 := by kernel_rfl
theorem cWv : Try.prog.cellsOf 25 = 3 := by kernel_rfl
theorem cSp : Try.prog.cellsOf 56 = 3 := by kernel_rfl
theorem cSps : Try.prog.cellsOf 28 = 1 := by kernel_rfl
theorem rI : Reads Try.prog 3 (fun n : Int => I n) any := (Reads.int Try.underlying3 cI).map (fun n => n) (fun _ => rfl) (fun n => ⟨n, rfl⟩) fun _ _ => trivial
theorem rStr : Reads Try.prog 9 (fun s : Str => .str s) any := (Reads.str Try.underlying9 cStr).map (fun n => n) (fun _ => rfl) (fun n => ⟨n, rfl⟩) fun _ _ => trivial
theorem rsl {e t sz : Nat} {α : Type} [Inhabited α] {enc : α → D} (h : Reads Try.prog e enc any) (ht : Try.prog.underlying t = some (.slice e)) (hc : Try.prog.cellsOf t = 1) (hp : Try.prog.cellsOf e = sz) (h0 : 0 < sz) : Reads Try.prog t (fun es : List α => L es sz enc) any := by
  have h := Reads.slice h ht hc (by rw [hp]; exact h0)
  rw [hp] at h
  exact h.map (fun n => n) (fun _ => rfl) (fun n => ⟨n, rfl⟩) fun _ _ => trivial
theorem rChg : Reads Try.prog 43 Chg.d any := by
  refine (Reads.struct (ok := any) Try.underlying43 ?_).map (fun x : Int × Str × Unit => (⟨x.1, x.2.1⟩ : Chg)) (fun _ => rfl) (fun b => ⟨(b.time, b.val, ()), rfl⟩) fun _ _ => trivial
  rw [cChg]
  exact rc rI (rc rStr rn rfl rfl (by rw [cStr])) rfl rfl (by rw [cI])
theorem rSp : Reads Try.prog 56 Sp.d any := by
  refine (Reads.struct (ok := any) Try.underlying56 ?_).map (fun x : Int × Int × Str × Unit => (⟨x.1, x.2.1, x.2.2.1⟩ : Sp)) (fun _ => rfl) (fun b => ⟨(b.frm, b.to, b.val, ()), rfl⟩) fun _ _ => trivial
  rw [cSp]
  exact rc rI (rc rI (rc rStr rn rfl rfl (by rw [cStr])) rfl rfl (by rw [cI])) rfl rfl (by rw [cI])
theorem rGap : Reads Try.prog 71 Iv.d any := by
  refine (Reads.struct (ok := any) Try.underlying71 ?_).map (fun x : Int × Int × Unit => (⟨x.1, x.2.1⟩ : Iv)) (fun _ => rfl) (fun b => ⟨(b.frm, b.to, ()), rfl⟩) fun _ _ => trivial
  rw [cGap]
  exact rc rI (rc rI rn rfl rfl (by rw [cI])) rfl rfl (by rw [cI])
theorem rChgs : Reads Try.prog 37 (fun es : List Chg => L es 2 Chg.d) any := rsl rChg Try.underlying37 cChgs cChg (by decide)
theorem rSps : Reads Try.prog 28 (fun es : List Sp => L es 3 Sp.d) any := rsl rSp Try.underlying28 cSps cSp (by decide)
theorem rGaps : Reads Try.prog 23 (fun es : List Iv => L es 2 Iv.d) any := rsl rGap Try.underlying23 cGaps cGap (by decide)
theorem rSig : Reads Try.prog 39 Sig.d any := by
  refine (Reads.struct (ok := any) Try.underlying39 ?_).map (fun x : Int × Int × List Chg × Unit => (⟨x.1, x.2.1, x.2.2.1⟩ : Sig)) (fun _ => rfl) (fun b => ⟨(b.kind, b.width, b.chg, ()), rfl⟩) fun _ _ => trivial
  rw [cSig]
  exact rc rI (rc rI (rc rChgs rn rfl rfl (by rw [cChgs])) rfl rfl (by rw [cI])) rfl rfl (by rw [cI])
theorem rSigs : Reads Try.prog 22 (fun es : List Sig => L es 3 Sig.d) any := rsl rSig Try.underlying22 cSigs cSig (by decide)
theorem rWv : Reads Try.prog 25 Wv.d any := by
  refine (Reads.struct (ok := any) Try.underlying25 ?_).map (fun x : List Sig × List Iv × Int × Unit => (⟨x.1, x.2.1, x.2.2.1⟩ : Wv)) (fun _ => rfl) (fun b => ⟨(b.sig, b.gap, b.fin, ()), rfl⟩) fun _ _ => trivial
  rw [cWv]
  exact rc rSigs (rc rGaps (rc rI rn rfl rfl (by rw [cI])) rfl rfl (by rw [cGaps])) rfl rfl (by rw [cSigs])
theorem own : ownKnob Try.prog.godebug = none := by kernel_rfl
theorem laid : laidOutB Try.prog = true := by kernel_rfl
theorem trod_cons {P : Program} {H : Type} {en : TypeId × Value → H} {W : World} {b : Nat} {sp : Nat → Bool} {hd : Bool} {t : TypeId} {ts : List TypeId} {vs : List Value} {ds : List (DataW H)} {ps : List MemPlace} (h : DataW.TrodAll en P W b sp hd (t :: ts) vs ds ps) :
    ∃ v r d e p q, vs = v :: r ∧ ds = d :: e ∧ DataW.Trod en P W b sp hd t v d p ∧ DataW.TrodAll en P W b sp hd ts r e q := by
  cases vs with
  | nil => simp [DataW.TrodAll] at h
  | cons v r => cases ds with
    | nil => simp [DataW.TrodAll] at h
    | cons d e =>
      obtain ⟨p, q, h1, h2, _⟩ := h
      exact ⟨v, r, d, e, p, q, rfl, rfl, h1, h2⟩
theorem trod_nil {P : Program} {H : Type} {en : TypeId × Value → H} {W : World} {b : Nat} {sp : Nat → Bool} {hd : Bool} {vs : List Value} {ds : List (DataW H)} {ps : List MemPlace} (h : DataW.TrodAll en P W b sp hd [] vs ds ps) : vs = [] ∧ ds = [] := by
  cases vs with
  | nil => cases ds with
    | nil => exact ⟨rfl, rfl⟩
    | cons d e => simp [DataW.TrodAll] at h
  | cons v r => simp [DataW.TrodAll] at h
end Go.Proofs.Ytjajmmdnplgjmaa.S1
/- Seat 2: the law on Of's errors and calls. -/
namespace Go.Proofs.Ytjajmmdnplgjmaa.S1
open Go Go.Ab Go.Proofs
def lvRA : List (List Nat × List Nat) := [([1, 1, 0], [1, 2, 3, 4, 5])]
def lvRB : List (List Nat × List Nat) := [([1, 1, 1, 1, 1, 1, 0, 1, 0], [1, 2, 3, 4, 5, 12, 13, 14, 15, 79, 80, 81])]
def lvRC : List (List Nat × List Nat) := [([1, 1, 1, 1, 1, 1, 1, 1, 0], [1, 2, 3, 4, 5, 12, 14])]
theorem F4 : OkF 4 Try.f4 := ⟨by kernel_rfl, by kernel_rfl, by kernel_rfl⟩
def lv4 : List (List Nat × List Nat) := [([1, 1, 1, 1, 1, 1, 0, 1, 0], [1, 2, 3, 4, 5, 12, 13, 14, 15, 79, 80, 81])]
noncomputable def nRRas (w : Wv) : List Nat → Nat → Option Ans := scrAt [([1, 0, 0], 1, Ans.pure [w.d] (B (smB w))), ([1, 0, 1, 0, 0], 0, Ans.pure [] (B true))]
theorem nRRa (w : Wv) (sig frm to k : Int) (K : D → Prop) : runS (En Try.f4) (fi Try.f4 K) (nRRas w) lvRA 200 [.code []] ⟨argSlots 0 [w.d, I sig, I frm, I to, .int .u8 k], .empty⟩ =
  (PureW PP 9 [w.d] [w.d] (B (smB w)) ∧ (((!bif !smB w then true else decide (sig < 0)) = true → w.sig.length ≤ lenM) → ((!bif bif bif bif bif !smB w then true else decide (sig < 0) then true else decide (sig ≥ (↑w.sig.length : Int)) then true else decide (frm < 0) then true else decide (frm > to) then true else decide (to > w.fin)) = true → 0 ≤ sig ∧ sig < (↑w.sig.length : Int)) ∧ bif bif bif bif bif bif bif !smB w then true else decide (sig < 0) then true else decide (sig ≥ (↑w.sig.length : Int)) then true else decide (frm < 0) then true else decide (frm > to) then true else decide (to > w.fin) then true else (w.sig.getD sig.toNat default).kind == 3 then PureW PP 10 [] [] (B true) ∧ K (B true) else At (En Try.f4) (fi Try.f4 K) [It.code [1, 1, 0], It.code [1, 1, 1]] { sl := [(1, I sig), (2, I frm), (3, I to), (4, D.int IntKind.u8 k), (5, .own [L w.sig 3 Sig.d, L w.gap 2 Iv.d, I w.fin])], h := Heap.empty : St })) := by kernel_rfl
noncomputable def nRRbs (w : Wv) (sig : Int) (frm : Int) (to : Int) : List Nat → Nat → Option Ans := scrAt [([1, 1, 0], 1, Ans.eff (D.bp 0 0) (hM w (-1) 0)), ([1, 1, 1, 0], 5, Ans.eff (.tup [L (ofR w (-1) 0 sig frm to).fst 3 Sp.d, I (ofR w (-1) 0 sig frm to).snd.fst]) (hMn w (-1) (ofR w (-1) 0 sig frm to).snd.snd))]
theorem nRRb (w : Wv) (sig frm to k : Int) (K : D → Prop) : runS (En Try.f4) (fi Try.f4 K) (nRRbs w sig frm to) lvRB 200 [.code [1, 1, 0], .code [1, 1, 1]] ⟨[(1, I sig), (2, I frm), (3, I to), (4, .int .u8 k), (5, .own [L w.sig 3 Sig.d, L w.gap 2 Iv.d, I w.fin])], .empty⟩ =
  (Does PP 12 [.agg [L w.sig 3 Sig.d, L w.gap 2 Iv.d, I w.fin]] Heap.empty (D.bp 0 0) (hM w (-1) 0) ∧ Does PP 11 [D.iface 32 (D.bp 0 0), I sig, I frm, I to] { box := upd (fun _ => none) 0 (some (Row.lit [L w.sig 3 Sig.d, L w.gap 2 Iv.d, I w.fin, I (-1), I 0])), nl := 1, hw := fun _ => none, nt := 0, vw := fun _ => none : Heap } (.tup [L (ofR w (-1) 0 sig frm to).fst 3 Sp.d, I (ofR w (-1) 0 sig frm to).snd.fst]) (hMn w (-1) (ofR w (-1) 0 sig frm to).snd.snd) ∧ (0 ≤ sig ∧ sig < (↑w.sig.length : Int)) ∧ ((w.sig.getD sig.toNat default).chg.length ≤ lenM → At (En Try.f4) (fi Try.f4 K) [It.code [1, 1, 1, 1, 1, 1, 0, 1, 0], It.blk 0, It.code [1, 1, 1, 1, 1, 1, 1]] { sl := [(1, I sig), (2, I frm), (3, I to), (4, D.int IntKind.u8 k), (5, .own [L w.sig 3 Sig.d, L w.gap 2 Iv.d, I w.fin]), (12, L (ofR w (-1) 0 sig frm to).fst 3 Sp.d), (13, I (ofR w (-1) 0 sig frm to).snd.fst), (14, I (ofR w (-1) 0 sig frm to).snd.snd), (15, I 0), (79, L (w.sig.getD sig.toNat default).chg 2 Chg.d), (80, I (↑(w.sig.getD sig.toNat default).chg.length : Int)), (81, I 0)], h := { box := upd (fun _ => none) 0 (some (Row.lit [L w.sig 3 Sig.d, L w.gap 2 Iv.d, I w.fin, I (-1), I (ofR w (-1) 0 sig frm to).snd.snd])), nl := 4, hw := fun _ => none, nt := 1, vw := fun _ => none : Heap } : St })) := by kernel_rfl
def hR : Heap := ⟨fun _ => none, 4, fun _ => none, 1, fun _ => none⟩
def SRR (w : Wv) (sig frm to k : Int) (out : List Sp) (e n c : Int) (ls : List Chg) (i : Int) : St := ⟨[(1, I sig), (2, I frm), (3, I to), (4, .int .u8 k), (5, .own [L w.sig 3 Sig.d, L w.gap 2 Iv.d, I w.fin]), (12, L out 3 Sp.d), (13, I e), (14, I n), (15, I c), (79, L ls 2 Chg.d), (80, I ls.length), (81, I i)], hR⟩
noncomputable def nRRcs  : List Nat → Nat → Option Ans := scrAt []
theorem nRRc (w : Wv) (sig frm to k : Int) (out : List Sp) (e n c : Int) (ls : List Chg) (i : Int) (J : St → Prop) (K : D → Prop) : runS (En Try.f4) (fi Try.f4 K) (nRRcs ) lvRC 200 [.code [1, 1, 1, 1, 1, 1, 0, 1, 0, 0], stp [1, 2, 3, 4, 5, 12, 13, 14, 15, 79, 80, 81] J, .blk 0, .code [1, 1, 1, 1, 1, 1, 1]] (SRR w sig frm to k out e n c ls i) =
  (bif decide (i < (↑ls.length : Int)) then (0 ≤ i ∧ i < (↑ls.length : Int)) ∧ True ∧ bif bif decide ((ls.getD i.toNat default).time > frm) then decide ((ls.getD i.toNat default).time ≤ to) else false then J { sl := [(1, I sig), (2, I frm), (3, I to), (4, D.int IntKind.u8 k), (5, .own [L w.sig 3 Sig.d, L w.gap 2 Iv.d, I w.fin]), (12, L out 3 Sp.d), (13, I e), (14, I n), (15, I (addI .i64 c 1)), (79, L ls 2 Chg.d), (80, I (↑ls.length : Int)), (81, I (addI .i64 i 1))], h := { box := fun _ => none, nl := 4, hw := fun _ => none, nt := 1, vw := fun _ => none : Heap } : St } else J { sl := [(1, I sig), (2, I frm), (3, I to), (4, D.int IntKind.u8 k), (5, .own [L w.sig 3 Sig.d, L w.gap 2 Iv.d, I w.fin]), (12, L out 3 Sp.d), (13, I e), (14, I n), (15, I c), (79, L ls 2 Chg.d), (80, I (↑ls.length : Int)), (81, I (addI .i64 i 1))], h := { box := fun _ => none, nl := 4, hw := fun _ => none, nt := 1, vw := fun _ => none : Heap } : St } else bif bif e != 0 then true else decide (n > addI .i64 c 3) then K (B false) else At (En Try.f4) (fi Try.f4 K) [It.code [1, 1, 1, 1, 1, 1, 1, 1, 0], It.code [1, 1, 1, 1, 1, 1, 1, 1, 1]] { sl := [(1, I sig), (2, I frm), (3, I to), (4, D.int IntKind.u8 k), (5, .own [L w.sig 3 Sig.d, L w.gap 2 Iv.d, I w.fin]), (12, L out 3 Sp.d), (14, I n)], h := { box := fun _ => none, nl := 4, hw := fun _ => none, nt := 1, vw := fun _ => none : Heap } : St }) := by kernel_rfl
noncomputable def nRRds (w : Wv) (sig : Int) (frm : Int) (to : Int) (k : Int) (out : List Sp) : List Nat → Nat → Option Ans := scrAt [([1, 1, 1, 1, 1, 1, 1, 1, 0], 1, Ans.eff (ren (rnm [] 4) (rnm [] 1) (D.bp 0 0)) (frameH [] [] { box := fun _ => none, nl := 4, hw := fun _ => none, nt := 1, vw := fun _ => none : Heap } (hM w (-1) 0))), ([1, 1, 1, 1, 1, 1, 1, 1, 1, 1, 0], 5, Ans.eff (ren (rnm [4] 5) (rnm [] 1) (.tup [L (ofR w (IntKind.i64.wrap (k.tmod 32)) 0 sig frm to).fst 3 Sp.d, I (ofR w (IntKind.i64.wrap (k.tmod 32)) 0 sig frm to).snd.fst])) (frameH [4] [] { box := upd (upd (fun _ => none) 4 (some (Row.lit [L w.sig 3 Sig.d, L w.gap 2 Iv.d, I w.fin, I (-1), I 0]))) 4 (some (Row.lit [L w.sig 3 Sig.d, L w.gap 2 Iv.d, I w.fin, I (IntKind.i64.wrap (k.tmod 32)), I 0])), nl := 5, hw := fun _ => none, nt := 1, vw := fun _ => none : Heap } (hMn w (IntKind.i64.wrap (k.tmod 32)) (ofR w (IntKind.i64.wrap (k.tmod 32)) 0 sig frm to).snd.snd))), ([1, 1, 1, 1, 1, 1, 1, 1, 1, 1, 1, 0, 1, 0, 0], 5, Ans.pure [L out 3 Sp.d, L out 3 Sp.d] (B true)), ([1, 1, 1, 1, 1, 1, 1, 1, 1, 1, 1, 0, 1, 0, 0], 8, Ans.pure [] (B true)), ([1, 1, 1, 1, 1, 1, 1, 1, 1, 1, 1, 1, 0], 8, Ans.pure [] (B true))]
theorem nRRd (w : Wv) (sig frm to k : Int) (out : List Sp) (n : Int) (K : D → Prop) : runS (En Try.f4) (fi Try.f4 K) (nRRds w sig frm to k out) nolv 200 [.code [1, 1, 1, 1, 1, 1, 1, 1, 0], .code [1, 1, 1, 1, 1, 1, 1, 1, 1]] ⟨[(1, I sig), (2, I frm), (3, I to), (4, .int .u8 k), (5, .own [L w.sig 3 Sig.d, L w.gap 2 Iv.d, I w.fin]), (12, L out 3 Sp.d), (14, I n)], hR⟩ =
  (Does PP 12 [.agg [L w.sig 3 Sig.d, L w.gap 2 Iv.d, I w.fin]] { box := fun _ => none, nl := 4, hw := fun _ => none, nt := 1, vw := fun _ => none : Heap } (ren (rnm [] 4) (rnm [] 1) (D.bp 0 0)) (frameH [] [] { box := fun _ => none, nl := 4, hw := fun _ => none, nt := 1, vw := fun _ => none : Heap } (hM w (-1) 0)) ∧
  (32 : Int) ≠ 0 ∧
    True ∧
      Does PP 11 [D.iface 32 (D.bp 4 0), I sig, I frm, I to] { box := upd (upd (fun _ => none) 4 (some (Row.lit [L w.sig 3 Sig.d, L w.gap 2 Iv.d, I w.fin, I (-1), I 0]))) 4 (some (Row.lit [L w.sig 3 Sig.d, L w.gap 2 Iv.d, I w.fin, I (IntKind.i64.wrap (k.tmod 32)), I 0])), nl := 5, hw := fun _ => none, nt := 1, vw := fun _ => none : Heap } (ren (rnm [4] 5) (rnm [] 1) (.tup [L (ofR w (IntKind.i64.wrap (k.tmod 32)) 0 sig frm to).fst 3 Sp.d, I (ofR w (IntKind.i64.wrap (k.tmod 32)) 0 sig frm to).snd.fst])) (frameH [4] [] { box := upd (upd (fun _ => none) 4 (some (Row.lit [L w.sig 3 Sig.d, L w.gap 2 Iv.d, I w.fin, I (-1), I 0]))) 4 (some (Row.lit [L w.sig 3 Sig.d, L w.gap 2 Iv.d, I w.fin, I (IntKind.i64.wrap (k.tmod 32)), I 0])), nl := 5, hw := fun _ => none, nt := 1, vw := fun _ => none : Heap } (hMn w (IntKind.i64.wrap (k.tmod 32)) (ofR w (IntKind.i64.wrap (k.tmod 32)) 0 sig frm to).snd.snd)) ∧
        bif decide (IntKind.i64.wrap (k.tmod 32) ≥ n) then (((ofR w (IntKind.i64.wrap (k.tmod 32)) 0 sig frm to).snd.fst == 0) = true → PureW PP 14 [L (ofR w (IntKind.i64.wrap (k.tmod 32)) 0 sig frm to).fst 3 Sp.d, L out 3 Sp.d] [L out 3 Sp.d, L out 3 Sp.d] (B true)) ∧ ((bif (ofR w (IntKind.i64.wrap (k.tmod 32)) 0 sig frm to).snd.fst == 0 then true else false) = true → PureW PP 10 [] [] (B true)) ∧ K (B (bif bif (ofR w (IntKind.i64.wrap (k.tmod 32)) 0 sig frm to).snd.fst == 0 then true else false then true else false)) else (((ofR w (IntKind.i64.wrap (k.tmod 32)) 0 sig frm to).snd.fst == 14) = true → (ofR w (IntKind.i64.wrap (k.tmod 32)) 0 sig frm to).fst.length ≤ lenM) → ((bif (ofR w (IntKind.i64.wrap (k.tmod 32)) 0 sig frm to).snd.fst == 14 then (↑(ofR w (IntKind.i64.wrap (k.tmod 32)) 0 sig frm to).fst.length : Int) == 0 else false) = true → PureW PP 10 [] [] (B true)) ∧ K (B (bif bif (ofR w (IntKind.i64.wrap (k.tmod 32)) 0 sig frm to).snd.fst == 14 then (↑(ofR w (IntKind.i64.wrap (k.tmod 32)) 0 sig frm to).fst.length : Int) == 0 else false then true else false))) := by kernel_rfl
/-- The guards. -/
theorem ask_of {w : Wv} {sig frm to : Int} (h : (bif bif bif bif bif bif !smB w then true else decide (sig < 0) then true else decide (sig ≥ (w.sig.length : Int)) then true else decide (frm < 0) then true else decide (frm > to) then true else decide (to > w.fin) then true else (w.sig.getD sig.toNat default).kind == 3) = false) : SmOk w ∧ Ask w sig frm to := by
  simp only [Bool.cond_true_left, Bool.or_eq_false_iff, decide_eq_false_iff_not, Bool.not_eq_false', beq_eq_false_iff_ne] at h
  obtain ⟨⟨⟨⟨⟨⟨h1, h2⟩, h3⟩, h4⟩, h5⟩, h6⟩, h7⟩ := h
  exact ⟨smB_ok h1, ⟨by omega, by omega⟩, h7, by omega, by omega, by omega⟩
theorem ask_in {w : Wv} {sig frm to : Int} (h : (!bif bif bif bif bif !smB w then true else decide (sig < 0) then true else decide (sig ≥ (w.sig.length : Int)) then true else decide (frm < 0) then true else decide (frm > to) then true else decide (to > w.fin)) = true) : 0 ≤ sig ∧ sig < (w.sig.length : Int) := by
  simp only [Bool.cond_true_left, Bool.not_eq_true', Bool.or_eq_false_iff, decide_eq_false_iff_not, Bool.not_eq_false'] at h
  obtain ⟨⟨⟨⟨⟨h1, h2⟩, h3⟩, h4⟩, h5⟩, h6⟩ := h
  omega
theorem ask_len {w : Wv} {sig : Int} (h : (!bif !smB w then true else decide (sig < 0)) = true) : w.sig.length ≤ lenM := by
  simp only [Bool.cond_true_left, Bool.not_eq_true', Bool.or_eq_false_iff, decide_eq_false_iff_not, Bool.not_eq_false'] at h
  have := (smB_ok h.1).len
  unfold lenM; omega
theorem c4 (w : Wv) (sig frm to k : Int) (hk : 0 ≤ k) : Pure PP 4 [w.d, I sig, I frm, I to, .int .u8 k] (B true) := by
  refine pu F4 (by kernel_rfl) (of_eq (nRRa w sig frm to k _) ⟨PureW.mk (c9 _), fun _ => ⟨ask_in, cond_intro (fun _ => ⟨PureW.mk c10, Wk.refl _⟩) fun h => ?_⟩⟩)
  obtain ⟨hw, ha⟩ := ask_of h
  obtain ⟨q1, _, q3⟩ := hw.at ha.hsig
  obtain ⟨hO, _⟩ := ofR_ask hw (lim := -1) ha
  have hO := hO (.inl (by omega))
  refine runS_sound hmix _ _ _ (of_eq (nRRb w sig frm to k _) ⟨e12 w, e11 hw.of 0, ha.hsig, fun hl => ?_⟩)
  rw [hO]
  simp only
  generalize hout : codeL (sigAt (sigOf w sig) frm) (cut (sigOf w sig).chg frm to) frm to = out at hO
  generalize hn : ofN w sig frm to = n at hO
  have hn' : n = (cut (sigOf w sig).chg frm to).length + 3 := hn.symm
  have hls : (w.sig.getD sig.toNat default).chg = (sigOf w sig).chg := rfl
  rw [hls] at hl ⊢
  have hcl : (cut (sigOf w sig).chg frm to).length ≤ (sigOf w sig).chg.length := List.length_filter_le _ _
  generalize hce : (sigOf w sig).chg = ls at hl q1 q3 hcl hn' ⊢
  refine at_le (st' := SRR w sig frm to k out 0 n (0 : Nat) ls (0 : Nat)) ?_ (StLe.heapLe ?_)
  rotate_left
  · exact ⟨fun l row' e => (by cases e), Nat.le_refl _, fun t n e => (by cases e), Nat.le_refl _, fun t n e => (by cases e), fun _ h => h⟩
  refine lp (fn := Try.f4) (fun z : Nat × Nat => z.1 ≤ ls.length ∧ z.2 ≤ z.1 ∧ (cut ls frm to).length = z.2 + (cut (ls.drop z.1) frm to).length) (fun z => SRR w sig frm to k out 0 n z.2 ls z.1) (fun z => ls.length - z.1) [1, 2, 3, 4, 5, 12, 13, 14, 15, 79, 80, 81] (by kernel_rfl) (fun z hz => of_eq (nRRc w sig frm to k out 0 n z.2 ls z.1 _ _) ?_) (0, 0) ⟨Nat.zero_le _, Nat.le_refl _, by simp⟩
  obtain ⟨i, c⟩ := z
  obtain ⟨hi, hc0, hc⟩ := hz
  simp only at hi hc0 hc ⊢
  refine cond_intro (fun hlt => ?_) fun hge => ?_
  · have hlt := ltI hlt
    rw [add1 hlt hl, Int.toNat_natCast]
    rw [drop_cons _ _ hlt] at hc
    unfold cut at hc
    rw [List.filter_cons] at hc
    have hb : (bif decide ((ls.getD i default).time > frm) then decide ((ls.getD i default).time ≤ to) else false) = (decide ((ls.getD i default).time > frm) && decide ((ls.getD i default).time ≤ to)) := by
      cases decide ((ls.getD i default).time > frm) <;> rfl
    rw [hb]
    refine ⟨⟨by omega, by omega⟩, trivial, cond_intro (fun h => ?_) fun h => ?_⟩
    · rw [if_pos h] at hc
      have : addI .i64 (c : Int) 1 = ((c + 1 : Nat) : Int) := by rw [add64 (by omega) (by omega)]; rfl
      rw [this]
      exact Nx.mk (i + 1, c + 1) ⟨hlt, by simp only; omega, by rw [List.length_cons] at hc; unfold cut; simp only; omega⟩ (by simp only; omega)
    · rw [if_neg (by rw [h]; simp)] at hc
      exact Nx.mk (i + 1, c) ⟨hlt, by simp only; omega, by unfold cut; exact hc⟩ (by simp only; omega)
  · rw [List.drop_of_length_le (geI hge)] at hc
    have hc' : (cut ls frm to).length = c := by rw [hc]; simp [cut]
    have ha3 : addI .i64 (c : Int) 3 = (c : Int) + 3 := add64 (by omega) (by omega)
    rw [ha3, decide_eq_false (show ¬ n > (c : Int) + 3 by omega)]
    simp only [bne_self_eq_false, cond_false]
    have hkm : IntKind.wrap .i64 (k.tmod 32) = k.tmod 32 := IntWalk.i64_in _ ⟨by have := Int.tmod_lt_of_pos k (show (0 : Int) < 32 by omega); have := Int.tmod_nonneg 32 hk; omega, by have := Int.tmod_lt_of_pos k (show (0 : Int) < 32 by omega); omega⟩
    have hk0 : 0 ≤ k.tmod 32 := Int.tmod_nonneg 32 hk
    refine runS_sound hmix _ _ _ (of_eq (nRRd w sig frm to k out n _) ⟨fr (e12 w) [] [], by decide, trivial, fr (e11 hw.of 0) [4] [], ?_⟩)
    rw [hkm]
    generalize k.tmod 32 = lim at hk0
    obtain ⟨h1, h2⟩ := ofR_ask hw (lim := lim) ha
    rw [hn, hout] at h1
    rw [hn] at h2
    refine cond_intro (fun h => ?_) fun h => ?_
    · have h : lim ≥ n := of_decide_eq_true h
      rw [h1 (.inr h)]
      exact ⟨fun _ => PureW.mk (c14 _), fun _ => PureW.mk c10, Wk.refl _⟩
    · have h : ¬ lim ≥ n := of_decide_eq_false h
      obtain ⟨g1, g2⟩ := h2 (by omega)
      rw [g1, g2]
      exact fun _ => ⟨fun _ => PureW.mk c10, Wk.refl _⟩
end Go.Proofs.Ytjajmmdnplgjmaa.S1
/- Seat 2: plain laws of valid lists of spans. -/
namespace Go.Proofs.Ytjajmmdnplgjmaa.S1
open Go Go.Ab Go.Proofs
/-- A list that begins at f, behind the value p. -/
def Vl : Int → Option Str → List Sp → Prop
  | _, _, [] => True
  | f, p, x :: r => x.frm = f ∧ 0 ≤ f ∧ f ≤ x.to ∧ x.to ≤ 1099511627776 ∧ p ≠ some x.val ∧ Vl (x.to + 1) (some x.val) r
/-- The value at a time. -/
def atL : List Sp → Int → Str
  | [], _ => []
  | x :: r, t => if t ≤ x.to then x.val else atL r t
theorem Vl.chk : ∀ {l : List Sp} {p : Option Sp} {f : Int}, (match p with | none => True | some y => f = y.to + 1) → Vl f (p.map Sp.val) l → S1.chk p l = true
  | [], _, _, _, _ => rfl
  | x :: r, p, f, hp, ⟨h1, h2, h3, h4, h5, h6⟩ => by
    simp only [S1.chk, Bool.and_eq_true]
    refine ⟨?_, Vl.chk (p := some x) rfl h6⟩
    unfold okN
    cases p with
    | none => rw [decide_eq_false (by omega)]; rfl
    | some y =>
      simp only at hp
      rw [decide_eq_false (by omega)]
      simp only
      rw [add64 (a := y.to) (b := 1) (by omega) (by omega)]
      have : (x.val == y.val) = false := by
        rw [beq_eq_false_iff_ne]
        intro e2
        exact h5 (by rw [e2]; rfl)
      rw [this, show (x.frm != y.to + 1) = false by rw [h1, hp]; simp]
      rfl
theorem lastSp_cons (x y : Sp) (r : List Sp) : lastSp (x :: y :: r) = lastSp (y :: r) := by
  unfold lastSp
  simp [List.getD]
theorem Vl.last : ∀ {l : List Sp} {f : Int} {p : Option Str}, Vl f p l → l ≠ [] → f ≤ (lastSp l).to ∧ (lastSp l).to ≤ 1099511627776
  | [x], _, _, ⟨_, _, h3, h4, _⟩, _ => ⟨h3, h4⟩
  | x :: y :: r, f, _, ⟨_, _, h3, _, _, h6⟩, _ => by
    have := Vl.last h6 (by simp)
    rw [lastSp_cons]; omega
theorem Vl.valid {l : List Sp} {f : Int} (h : Vl f none l) (hne : l ≠ []) : validL l = true := by
  have hl := h.last hne
  have hc : S1.chk none l = true := Vl.chk (p := none) trivial h
  cases l with
  | nil => exact absurd rfl hne
  | cons x r =>
    obtain ⟨h1, h2, _⟩ := h
    unfold validL
    rw [hc, show (((x :: r).length : Int) == 0) = false by simp; omega, decide_eq_false (show ¬ ((x :: r).getD 0 default).frm < 0 by simp; omega), decide_eq_false (show ¬ (lastSp (x :: r)).to > 1099511627776 by omega)]
    rfl
/-- The code's list by the changes. -/
def seg (to : Int) : Int → Str → List Chg → List Sp
  | f, v, [] => [⟨f, to, v⟩]
  | f, v, x :: r => if v = x.val then seg to f v r else ⟨f, x.time - 1, v⟩ :: seg to x.time x.val r
theorem seg_fold (to : Int) : ∀ (l : List Chg) (a : List Sp) (f e : Int) (v : Str), 0 ≤ f → Inc f l → (∀ x ∈ l, x.time ≤ 1099511627776) → lastTo (l.foldl (fun o x => addS o x.time x.val) (a ++ [⟨f, e, v⟩])) to = a ++ seg to f v l
  | [], a, f, e, v, _, _, _ => by
    simp only [List.foldl_nil, seg]
    rw [lastTo_snoc]
  | x :: r, a, f, e, v, h0, ⟨h1, h2⟩, hb => by
    have hb' : ∀ y ∈ r, y.time ≤ 1099511627776 := fun y hy => hb y (List.mem_cons_of_mem _ hy)
    have hx := hb x (List.mem_cons_self ..)
    rw [List.foldl_cons, addS_snoc]
    simp only [seg]
    by_cases hv : v = x.val
    · rw [if_pos hv, if_pos hv]
      exact seg_fold to r a f e v h0 (h2.mono (by omega)) hb'
    · rw [if_neg hv, if_neg hv, sub64 (by omega) (by omega)]
      have := seg_fold to r (a ++ [⟨f, x.time - 1, v⟩]) x.time 0 x.val (by omega) h2 hb'
      rw [this]
      simp only [List.append_assoc, List.singleton_append]
theorem codeL_seg {v : Str} {l : List Chg} {f to : Int} (h0 : 0 ≤ f) (hi : Inc f l) (hb : ∀ x ∈ l, x.time ≤ 1099511627776) : codeL v l f to = seg to f v l := by
  unfold codeL
  exact seg_fold to l [] f 0 v h0 hi hb
theorem seg_ne (to : Int) : ∀ (l : List Chg) (f : Int) (v : Str), seg to f v l ≠ []
  | [], _, _ => by simp [seg]
  | x :: r, f, v => by
    simp only [seg]
    split
    · exact seg_ne to r f v
    · simp
theorem seg_vl {to : Int} (ht : to ≤ 1099511627776) : ∀ {l : List Chg} {f : Int} {v : Str} {p : Option Str}, 0 ≤ f → f ≤ to → Inc f l → (∀ x ∈ l, x.time ≤ to) → p ≠ some v → Vl f p (seg to f v l)
  | [], f, v, p, h0, hf, _, _, hp => ⟨rfl, h0, hf, ht, hp, trivial⟩
  | x :: r, f, v, p, h0, hf, ⟨h1, h2⟩, hb, hp => by
    have hb' : ∀ y ∈ r, y.time ≤ to := fun y hy => hb y (List.mem_cons_of_mem _ hy)
    have hx := hb x (List.mem_cons_self ..)
    simp only [seg]
    split
    · exact seg_vl ht h0 hf (h2.mono (by omega)) hb' hp
    · rename_i hv
      refine ⟨rfl, h0, ?_, ?_, hp, ?_⟩
      · show f ≤ x.time - 1
        omega
      · show x.time - 1 ≤ _
        omega
      · show Vl (x.time - 1 + 1) (some v) _
        rw [show x.time - 1 + 1 = x.time by omega]
        exact seg_vl ht (by omega) hx h2 hb' (fun e => hv (Option.some.inj e))
theorem lastSp_sing (x : Sp) : lastSp [x] = x := rfl
theorem lastSp_cons' (x : Sp) {l : List Sp} (h : l ≠ []) : lastSp (x :: l) = lastSp l := by
  cases l with
  | nil => exact absurd rfl h
  | cons y r => exact lastSp_cons x y r
theorem seg_last (to : Int) : ∀ (l : List Chg) (f : Int) (v : Str), (lastSp (seg to f v l)).to = to
  | [], _, _ => rfl
  | x :: r, f, v => by
    simp only [seg]
    split
    · exact seg_last to r f v
    · rw [lastSp_cons' _ (seg_ne to r _ _)]
      exact seg_last to r _ _
theorem Vl.head {l : List Sp} {f : Int} {p : Option Str} (h : Vl f p l) (hne : l ≠ []) : (l.getD 0 default).frm = f := by
  cases l with
  | nil => exact absurd rfl hne
  | cons x r => exact h.1
theorem seg_at (to : Int) : ∀ (l : List Chg) (f : Int) (v : Str) (t : Int), f ≤ t → t ≤ to → Inc f l → (∀ x ∈ l, x.time ≤ to) → atL (seg to f v l) t = valAt v l t
  | [], f, v, t, h0, h1, _, _ => by
    simp only [seg, atL, valAt, List.foldl_nil]
    rw [if_pos h1]
  | x :: r, f, v, t, h0, h1, ⟨g1, g2⟩, hb => by
    have hb' : ∀ y ∈ r, y.time ≤ to := fun y hy => hb y (List.mem_cons_of_mem _ hy)
    rw [valAt_cons]
    simp only [seg]
    split
    · rename_i hv
      rw [seg_at to r f v t h0 h1 (g2.mono (by omega)) hb', ← hv]
      cases decide (x.time ≤ t) <;> rfl
    · simp only [atL]
      by_cases ht : x.time ≤ t
      · rw [if_neg (by omega), decide_eq_true ht]
        exact seg_at to r x.time x.val t ht h1 g2 hb'
      · rw [if_pos (by omega), decide_eq_false ht]
        exact (valAt_gt r v t fun y hy => by have := g2.gt y hy; omega).symm
theorem cut_inc (to : Int) : ∀ {l : List Chg} {s f : Int}, Inc s l → Inc f (cut l f to)
  | [], _, _, _ => trivial
  | x :: r, s, f, ⟨h1, h2⟩ => by
    unfold cut
    rw [List.filter_cons]
    split
    · rename_i h
      simp only [Bool.and_eq_true, decide_eq_true_eq] at h
      refine ⟨h.1, ?_⟩
      have : (r.filter fun y => decide (y.time > f) && decide (y.time ≤ to)) = cut r x.time to := by
        unfold cut
        refine List.filter_congr fun y hy => ?_
        have := h2.gt y hy
        rw [decide_eq_true (show y.time > f by omega), decide_eq_true (show y.time > x.time by omega)]
      rw [this]
      exact cut_inc to h2
    · exact cut_inc to h2
theorem cut_le {l : List Chg} {f to : Int} : ∀ x ∈ cut l f to, x.time ≤ to := fun x hx => by
  unfold cut at hx
  have := (List.mem_filter.1 hx).2
  simp only [Bool.and_eq_true, decide_eq_true_eq] at this
  exact this.2
theorem valAt_cut {s f t to : Int} (ht : f ≤ t) (hto : t ≤ to) : ∀ {l : List Chg} (v : Str), Inc s l → valAt (valAt v l f) (cut l f to) t = valAt v l t
  | l, v, hi => by
    obtain ⟨a, b, rfl, ha, hb⟩ := hi.split f
    have hv : valAt v (a ++ b) f = valAt v a f := by rw [valAt_app]; exact valAt_gt b _ _ hb.gt
    have hc : cut (a ++ b) f to = cut b f to := by
      have : cut a f to = [] := by
        unfold cut
        rw [List.filter_eq_nil_iff]
        intro x hx
        have := ha x hx
        simp; omega
      rw [cut, List.filter_append]
      show cut a f to ++ cut b f to = _
      rw [this]; rfl
    have hva : ∀ (a : List Chg) (v : Str), (∀ x ∈ a, x.time ≤ f) → valAt v a f = valAt v a t := fun a => by
      induction a with
      | nil => intro v _; rfl
      | cons y r ih =>
        intro v h
        have := h y (List.mem_cons_self ..)
        rw [valAt_cons, valAt_cons, decide_eq_true this, decide_eq_true (show y.time ≤ t by omega)]
        exact ih _ fun z hz => h z (List.mem_cons_of_mem _ hz)
    rw [hv, hc, valAt_app, ← hva a v ha]
    generalize valAt v a f = u
    clear hv hc ha hi hva
    have hin := hb
    revert hb
    suffices h : ∀ (b : List Chg) (s : Int) (u : Str), Inc s b → valAt u (b.filter fun x => decide (x.time > f) && decide (x.time ≤ to)) t = valAt u (b.filter fun x => decide (x.time > f)) t by
      intro hb
      have e : (b.filter fun x => decide (x.time > f)) = b := List.filter_eq_self.2 fun x hx => by have := hb.gt x hx; simp; omega
      have := h b f u hb
      rw [e] at this
      exact this
    intro b
    induction b with
    | nil => intros; rfl
    | cons y r ih =>
      intro s u hi
      obtain ⟨g1, g2⟩ := hi
      rw [List.filter_cons, List.filter_cons]
      by_cases h1 : y.time > f
      · rw [decide_eq_true h1]
        by_cases h2 : y.time ≤ to
        · rw [decide_eq_true h2]
          simp only [Bool.and_self, if_true]
          rw [valAt_cons, valAt_cons]
          exact ih _ _ g2
        · rw [decide_eq_false h2]
          simp only [Bool.and_false, if_true]
          rw [valAt_cons, decide_eq_false (by omega)]
          exact ih _ _ g2
      · rw [decide_eq_false h1]
        simp only [Bool.false_and]
        exact ih _ _ g2
/-- What Of answers within the wave. -/
structure OfOk (w : Wv) (sig frm to : Int) (l : List Sp) : Prop where
  vl : Vl frm none l
  ne : l ≠ []
  last : (lastSp l).to = to
  len : l.length ≤ 100
  at_ : ∀ t, frm ≤ t → t ≤ to → atL l t = sigAt (sigOf w sig) t
theorem seg_len (to : Int) : ∀ (l : List Chg) (f : Int) (v : Str), (seg to f v l).length ≤ l.length + 1
  | [], _, _ => Nat.le_refl _
  | x :: r, f, v => by
    simp only [seg]
    split
    · have := seg_len to r f v
      simp only [List.length_cons]; omega
    · have := seg_len to r x.time x.val
      simp only [List.length_cons]; omega
theorem ofOk {w : Wv} (hw : SmOk w) {sig frm to : Int} (a : Ask w sig frm to) : OfOk w sig frm to (codeL (sigAt (sigOf w sig) frm) (cut (sigOf w sig).chg frm to) frm to) := by
  obtain ⟨hs, hk, h0, h1, h2⟩ := a
  obtain ⟨q1, _, q3⟩ := hw.at hs
  have hf := hw.fin.2
  rw [codeL_seg h0 (cut_inc to q3) (fun x hx => by have := cut_le x hx; omega)]
  refine ⟨seg_vl (by omega) h0 h1 (cut_inc to q3) cut_le (by simp), seg_ne _ _ _ _, seg_last _ _ _ _, ?_, fun t ht1 ht2 => ?_⟩
  · have := seg_len to (cut (sigOf w sig).chg frm to) frm (sigAt (sigOf w sig) frm)
    have : (cut (sigOf w sig).chg frm to).length ≤ (sigOf w sig).chg.length := List.length_filter_le _ _
    omega
  · rw [seg_at to _ frm _ t ht1 ht2 (cut_inc to q3) cut_le]
    unfold sigAt
    rw [if_neg hk, if_neg hk]
    exact valAt_cut ht1 ht2 _ q3
end Go.Proofs.Ytjajmmdnplgjmaa.S1
/- Seat 2: the value at a time; the law on values. -/
namespace Go.Proofs.Ytjajmmdnplgjmaa.S1
open Go Go.Ab Go.Proofs
theorem F36 : OkF 36 Try.f36 := ⟨by kernel_rfl, by kernel_rfl, by kernel_rfl⟩
def lv36 : List (List Nat × List Nat) := []
noncomputable def nCovs  : List Nat → Nat → Option Ans := scrAt []
theorem nCov (l : List Sp) (frm to : Int) (K : D → Prop) : runS (En Try.f36) (fi Try.f36 K) (nCovs ) lv36 200 [.code []] ⟨argSlots 0 [L l 3 Sp.d, I frm, I to], .empty⟩ =
  (((0 : Int) ≤ 0 ∧ 0 < (↑l.length : Int)) ∧ ((decide ((l.getD (Int.toNat 0) default).frm ≤ frm) = true → l.length ≤ lenM) → (decide ((l.getD (Int.toNat 0) default).frm ≤ frm) = true → 0 ≤ subI .i64 (↑l.length : Int) 1 ∧ subI .i64 (↑l.length : Int) 1 < (↑l.length : Int)) ∧ K (B (bif decide ((l.getD (Int.toNat 0) default).frm ≤ frm) then decide (to ≤ (l.getD (subI .i64 (↑l.length : Int) 1).toNat default).to) else false)))) := by kernel_rfl
theorem c36 (l : List Sp) (frm to : Int) (h0 : 0 < l.length) : Pure PP 36 [L l 3 Sp.d, I frm, I to] (B (decide ((l.getD 0 default).frm ≤ frm ∧ to ≤ (lastSp l).to))) := by
  refine pu F36 (by kernel_rfl) (of_eq (nCov l frm to _) ⟨by omega, fun h => ⟨fun h2 => ?_, ?_⟩⟩)
  · rw [lastI h0 (h h2)]; omega
  · rw [show (bif decide ((l.getD (Int.toNat 0) default).frm ≤ frm) then decide (to ≤ (l.getD (subI .i64 (l.length : Int) 1).toNat default).to) else false) = decide ((l.getD 0 default).frm ≤ frm ∧ to ≤ (lastSp l).to) by
      cases hb : decide ((l.getD (Int.toNat 0) default).frm ≤ frm) with
      | false =>
        have : ¬ (l.getD 0 default).frm ≤ frm := of_decide_eq_false hb
        exact (decide_eq_false fun h => this h.1).symm
      | true =>
        have h1 : (l.getD 0 default).frm ≤ frm := of_decide_eq_true hb
        rw [lastI h0 (h hb), Int.toNat_natCast]
        simp only [cond_true]
        rw [Bool.eq_iff_iff]
        simp only [decide_eq_true_eq]
        exact ⟨fun h => ⟨h1, h⟩, fun h => h.2⟩]
    exact Wk.refl _
instance {ds : List D} [h : DS ds] : DD (.ep ds) := ⟨h.p⟩
theorem F38 : OkF 38 Try.f38 := ⟨by kernel_rfl, by kernel_rfl, by kernel_rfl⟩
def lv38 : List (List Nat × List Nat) := []
noncomputable def nAt1s  : List Nat → Nat → Option Ans := scrAt []
theorem nAt1 (x : Sp) (t : Int) (K : D → Prop) : runS (En Try.f38) (fi Try.f38 K) (nAt1s ) lv38 200 [.code []] ⟨argSlots 0 [x.d, .ep [I t]], .empty⟩ =
  (K (B (decide (t ≤ x.to)))) := by kernel_rfl
theorem c38 (x : Sp) (t : Int) : Pure PP 38 [x.d, .ep [I t]] (B (decide (t ≤ x.to))) :=
  pu F38 (by kernel_rfl) (of_eq (nAt1 x t _) (Wk.refl _))
theorem F37 : OkF 37 Try.f37 := ⟨by kernel_rfl, by kernel_rfl, by kernel_rfl⟩
def lv37 : List (List Nat × List Nat) := [([1, 0, 1, 0], [0, 1, 7, 8])]
noncomputable def nIxs  : List Nat → Nat → Option Ans := scrAt []
theorem nIx (l : List Sp) (t : Int) (K : D → Prop) : runS (En Try.f37) (fi Try.f37 K) (nIxs ) lv37 200 [.code []] ⟨argSlots 0 [L l 3 Sp.d, .clo 38 [.ep [I t]]], .empty⟩ =
  (l.length ≤ lenM → At (En Try.f37) (fi Try.f37 K) [It.code [1, 0, 1, 0], It.blk 0, It.code [1, 1]] { sl := [(0, L l 3 Sp.d), (1, D.clo 38 [D.ep [I t]]), (7, I (↑l.length : Int)), (8, I 0)], h := Heap.empty : St }) := by kernel_rfl
def SIx (l : List Sp) (t i : Int) : St := ⟨[(0, L l 3 Sp.d), (1, .clo 38 [.ep [I t]]), (7, I l.length), (8, I i)], .empty⟩
noncomputable def nIxas (l : List Sp) (t : Int) (i : Int) : List Nat → Nat → Option Ans := scrAt [([1, 0, 1, 0, 0, 1, 1, 0, 0, 1, 0], 5, Ans.pure [(l.getD i.toNat default).d, D.ep [I t]] (B (decide (t ≤ (l.getD i.toNat default).to))))]
theorem nIxa (l : List Sp) (t i : Int) (J : St → Prop) (K : D → Prop) : runS (En Try.f37) (fi Try.f37 K) (nIxas l t i) lv37 200 [.code [1, 0, 1, 0, 0], stp [0, 1, 7, 8] J, .blk 0, .code [1, 1]] (SIx l t i) =
  (bif decide (i < (↑l.length : Int)) then (0 ≤ i ∧ i < (↑l.length : Int)) ∧ PureW PP 38 [(l.getD i.toNat default).d, D.ep [I t]] [(l.getD i.toNat default).d, D.ep [I t]] (B (decide (t ≤ (l.getD i.toNat default).to))) ∧ bif decide (t ≤ (l.getD i.toNat default).to) then K (I i) else J { sl := [(0, L l 3 Sp.d), (1, D.clo 38 [D.ep [I t]]), (7, I (↑l.length : Int)), (8, I (addI .i64 i 1))], h := Heap.empty : St } else K (I (-1))) := by kernel_rfl
theorem c37 (l : List Sp) (t : Int) (h0 : 0 < l.length) (ht : t ≤ (lastSp l).to) : Pure PP 37 [L l 3 Sp.d, .clo 38 [.ep [I t]]] (I ((adv l t 0 : Nat) : Int)) := by
  refine pu F37 (by kernel_rfl) (of_eq (nIx l t _) fun hl => ?_)
  refine lp (fn := Try.f37) (fun i : Nat => i < l.length ∧ adv l t i = adv l t 0) (fun i => SIx l t i) (fun i => l.length - i) [0, 1, 7, 8] (by kernel_rfl) (fun i hi => of_eq (nIxa l t i _ _) ?_) 0 ⟨h0, rfl⟩
  obtain ⟨hi, he⟩ := hi
  rw [decide_eq_true (show (i : Int) < (l.length : Int) by omega), Int.toNat_natCast, add1 hi hl]
  simp only [cond_true]
  refine ⟨⟨by omega, by omega⟩, PureW.mk (c38 _ _), cond_intro (fun h => ?_) fun h => ?_⟩
  · have h : t ≤ (l.getD i default).to := of_decide_eq_true h
    rw [adv_ge hi (by omega)] at he
    rw [← he]; exact Wk.refl _
  · have h : ¬ t ≤ (l.getD i default).to := of_decide_eq_false h
    have hne : i + 1 < l.length := by
      rcases Nat.lt_or_ge (i + 1) l.length with h1 | h1
      · exact h1
      · have : i = l.length - 1 := by omega
        subst this
        exact absurd ht (by unfold lastSp; omega)
    exact Nx.mk (i + 1) ⟨hne, by rw [← he, adv_lt hi (by omega)]⟩ (by omega)
def lvAt : List (List Nat × List Nat) := [([1, 1, 0], [0, 3])]
theorem F18 : OkF 18 Try.f18 := ⟨by kernel_rfl, by kernel_rfl, by kernel_rfl⟩
def lv18 : List (List Nat × List Nat) := []
noncomputable def nAts (l : List Sp) (t : Int) : List Nat → Nat → Option Ans := scrAt [([1, 0, 0, 0], 1, Ans.pure [L l 3 Sp.d] (B (validL l))), ([1, 0, 0, 1, 1, 0], 3, Ans.pure [L l 3 Sp.d, I t, I t] (B (decide ((l.getD 0 default).frm ≤ t ∧ t ≤ (lastSp l).to))))]
theorem nAt (l : List Sp) (t : Int) (K : D → Prop) : runS (En Try.f18) (fi Try.f18 K) (nAts l t) lvAt 200 [.code []] ⟨argSlots 0 [L l 3 Sp.d, I t], .empty⟩ =
  (PureW PP 17 [L l 3 Sp.d] [L l 3 Sp.d] (B (validL l)) ∧ bif !validL l then K (.tup [.str { data := #[] : ByteArray }.data.toList, I 1]) else PureW PP 36 [L l 3 Sp.d, I t, I t] [L l 3 Sp.d, I t, I t] (B (decide ((l.getD 0 default).frm ≤ t ∧ t ≤ (lastSp l).to))) ∧ bif !decide ((l.getD 0 default).frm ≤ t ∧ t ≤ (lastSp l).to) then K (.tup [.str { data := #[] : ByteArray }.data.toList, I 2]) else At (En Try.f18) (fi Try.f18 K) [It.code [1, 1, 0], It.code [1, 1, 1]] { sl := [(0, L l 3 Sp.d), (3, .own [I t])], h := Heap.empty : St }) := by kernel_rfl
noncomputable def nAtbs (l : List Sp) (t : Int) : List Nat → Nat → Option Ans := scrAt [([1, 1, 0], 3, Ans.pure [L l 3 Sp.d, D.clo 38 [D.ep [I t]]] (I (↑(adv l t 0) : Int)))]
theorem nAtb (l : List Sp) (t : Int) (K : D → Prop) : runS (En Try.f18) (fi Try.f18 K) (nAtbs l t) nolv 200 [.code [1, 1, 0], .code [1, 1, 1]] ⟨[(0, L l 3 Sp.d), (3, .ep [I t])], .empty⟩ =
  (PureW PP 37 [L l 3 Sp.d, D.clo 38 [D.ep [I t]]] [L l 3 Sp.d, D.clo 38 [D.ep [I t]]] (I (↑(adv l t 0) : Int)) ∧ (0 ≤ (↑(adv l t 0) : Int) ∧ (↑(adv l t 0) : Int) < (↑l.length : Int)) ∧ K (.tup [.str (l.getD (↑(adv l t 0) : Int).toNat default).val, I 0])) := by kernel_rfl
def atR (l : List Sp) (t : Int) : Str × Int := if (l.getD 0 default).frm ≤ t ∧ t ≤ (lastSp l).to then ((l.getD (adv l t 0) default).val, 0) else ([], 2)
theorem c18 (l : List Sp) (t : Int) (hv : validL l = true) : Pure PP 18 [L l 3 Sp.d, I t] (.tup [.str (atR l t).1, I (atR l t).2]) := by
  obtain ⟨h0, _, _, _⟩ := validL_facts hv
  refine pu F18 (by kernel_rfl) (of_eq (nAt l t _) ⟨PureW.mk (c17 _), ?_⟩)
  rw [hv]
  refine ⟨PureW.mk (c36 l t t h0), cond_intro (fun h => ?_) fun h => ?_⟩
  · have h : ¬ ((l.getD 0 default).frm ≤ t ∧ t ≤ (lastSp l).to) := by
      intro hc; rw [decide_eq_true hc] at h; cases h
    rw [atR, if_neg h]; exact Wk.refl _
  · have h : (l.getD 0 default).frm ≤ t ∧ t ≤ (lastSp l).to := by
      rcases Classical.em ((l.getD 0 default).frm ≤ t ∧ t ≤ (lastSp l).to) with hc | hc
      · exact hc
      · rw [decide_eq_false hc] at h; cases h
    rw [atR, if_pos h]
    obtain ⟨_, h1, _⟩ := adv_in h.2 _ 0 rfl h0
    refine at_le (st' := ⟨[(0, L l 3 Sp.d), (3, .ep [I t])], .empty⟩) ?_ ((StLe.layOwn 3 rfl (by kernel_rfl)).cast (by kernel_rfl))
    refine runS_sound hmix _ _ _ (of_eq (nAtb l t _) ⟨PureW.mk (c37 l t h0 h.2), ⟨by omega, by omega⟩, ?_⟩)
    rw [Int.toNat_natCast]; exact Wk.refl _
theorem adv_at (t : Int) : ∀ {l : List Sp}, l ≠ [] → t ≤ (lastSp l).to → (l.getD (adv l t 0) default).val = atL l t
  | [], h, _ => absurd rfl h
  | x :: r, _, ht => by
    unfold adv
    simp only [List.drop_zero, Nat.zero_add, atL, List.takeWhile_cons]
    by_cases hx : t ≤ x.to
    · rw [if_pos hx, decide_eq_false (by omega)]; rfl
    · rw [if_neg hx, decide_eq_true (by omega)]
      have hr : r ≠ [] := by
        intro e
        subst e
        exact hx (by simpa [lastSp] using ht)
      rw [lastSp_cons' x hr] at ht
      have := adv_at t hr ht
      unfold adv at this
      simp only [List.drop_zero, Nat.zero_add] at this
      simpa [List.getD] using this
theorem OfOk.at {w : Wv} {sig frm to : Int} {l : List Sp} (h : OfOk w sig frm to l) (t : Int) : atR l t = if frm ≤ t ∧ t ≤ to then (sigAt (sigOf w sig) t, 0) else ([], 2) := by
  unfold atR
  rw [h.vl.head h.ne, h.last]
  by_cases hc : frm ≤ t ∧ t ≤ to
  · rw [if_pos hc, if_pos hc, adv_at t h.ne (by rw [h.last]; exact hc.2), h.at_ t hc.1 hc.2]
  · rw [if_neg hc, if_neg hc]
def lvVa : List (List Nat × List Nat) := [([1, 1, 0], [1, 2, 3, 4])]
def lvVb : List (List Nat × List Nat) := [([1, 1, 1, 1, 0, 1, 0], [1, 2, 3, 4, 9, 94])]
theorem F6 : OkF 6 Try.f6 := ⟨by kernel_rfl, by kernel_rfl, by kernel_rfl⟩
def lv6 : List (List Nat × List Nat) := [([1, 1, 1, 1, 0, 1, 0], [1, 2, 3, 4, 9, 94])]
noncomputable def nVas (w : Wv) : List Nat → Nat → Option Ans := scrAt [([1, 0, 0], 1, Ans.pure [w.d] (B (smB w))), ([1, 0, 1, 0, 0], 0, Ans.pure [] (B true))]
theorem nVa (w : Wv) (sig frm to : Int) (K : D → Prop) : runS (En Try.f6) (fi Try.f6 K) (nVas w) lvVa 200 [.code []] ⟨argSlots 0 [w.d, I sig, I frm, I to], .empty⟩ =
  (PureW PP 9 [w.d] [w.d] (B (smB w)) ∧ (((!bif !smB w then true else decide (sig < 0)) = true → w.sig.length ≤ lenM) → ((!bif bif bif bif bif !smB w then true else decide (sig < 0) then true else decide (sig ≥ (↑w.sig.length : Int)) then true else decide (frm < 0) then true else decide (frm > to) then true else decide (to > w.fin)) = true → 0 ≤ sig ∧ sig < (↑w.sig.length : Int)) ∧ bif bif bif bif bif bif bif !smB w then true else decide (sig < 0) then true else decide (sig ≥ (↑w.sig.length : Int)) then true else decide (frm < 0) then true else decide (frm > to) then true else decide (to > w.fin) then true else (w.sig.getD sig.toNat default).kind == 3 then PureW PP 10 [] [] (B true) ∧ K (B true) else At (En Try.f6) (fi Try.f6 K) [It.code [1, 1, 0], It.code [1, 1, 1]] { sl := [(1, I sig), (2, I frm), (3, I to), (4, .own [L w.sig 3 Sig.d, L w.gap 2 Iv.d, I w.fin])], h := Heap.empty : St })) := by kernel_rfl
noncomputable def nVbs (w : Wv) (sig : Int) (frm : Int) (to : Int) : List Nat → Nat → Option Ans := scrAt [([1, 1, 0], 1, Ans.eff (D.bp 0 0) (hM w (-1) 0)), ([1, 1, 0], 6, Ans.eff (.tup [L (ofR w (-1) 0 sig frm to).fst 3 Sp.d, I (ofR w (-1) 0 sig frm to).snd.fst]) (hMn w (-1) (ofR w (-1) 0 sig frm to).snd.snd)), ([1, 1, 1, 0, 0], 4, Ans.pure [L (ofR w (-1) 0 sig frm to).fst 3 Sp.d] (B (validL (ofR w (-1) 0 sig frm to).fst)))]
theorem nVb (w : Wv) (sig frm to : Int) (K : D → Prop) : runS (En Try.f6) (fi Try.f6 K) (nVbs w sig frm to) lvVb 200 [.code [1, 1, 0], .code [1, 1, 1]] ⟨[(1, I sig), (2, I frm), (3, I to), (4, .own [L w.sig 3 Sig.d, L w.gap 2 Iv.d, I w.fin])], .empty⟩ =
  (Does PP 12 [.agg [L w.sig 3 Sig.d, L w.gap 2 Iv.d, I w.fin]] Heap.empty (D.bp 0 0) (hM w (-1) 0) ∧
  Does PP 11 [D.iface 32 (D.bp 0 0), I sig, I frm, I to] { box := upd (fun _ => none) 0 (some (Row.lit [L w.sig 3 Sig.d, L w.gap 2 Iv.d, I w.fin, I (-1), I 0])), nl := 1, hw := fun _ => none, nt := 0, vw := fun _ => none : Heap } (.tup [L (ofR w (-1) 0 sig frm to).fst 3 Sp.d, I (ofR w (-1) 0 sig frm to).snd.fst]) (hMn w (-1) (ofR w (-1) 0 sig frm to).snd.snd) ∧
    ((!(ofR w (-1) 0 sig frm to).snd.fst != 0) = true → PureW PP 17 [L (ofR w (-1) 0 sig frm to).fst 3 Sp.d] [L (ofR w (-1) 0 sig frm to).fst 3 Sp.d] (B (validL (ofR w (-1) 0 sig frm to).fst))) ∧
      (((!bif (ofR w (-1) 0 sig frm to).snd.fst != 0 then true else !validL (ofR w (-1) 0 sig frm to).fst) = true → (ofR w (-1) 0 sig frm to).fst.length ≤ lenM) →
        ((!bif bif (ofR w (-1) 0 sig frm to).snd.fst != 0 then true else !validL (ofR w (-1) 0 sig frm to).fst then true else (↑(ofR w (-1) 0 sig frm to).fst.length : Int) == 0) = true → (0 : Int) ≤ 0 ∧ 0 < (↑(ofR w (-1) 0 sig frm to).fst.length : Int)) ∧
          (((!bif bif bif (ofR w (-1) 0 sig frm to).snd.fst != 0 then true else !validL (ofR w (-1) 0 sig frm to).fst then true else (↑(ofR w (-1) 0 sig frm to).fst.length : Int) == 0 then true else ((ofR w (-1) 0 sig frm to).fst.getD 0 default).frm != frm) = true → (ofR w (-1) 0 sig frm to).fst.length ≤ lenM) → ((!bif bif bif (ofR w (-1) 0 sig frm to).snd.fst != 0 then true else !validL (ofR w (-1) 0 sig frm to).fst then true else (↑(ofR w (-1) 0 sig frm to).fst.length : Int) == 0 then true else ((ofR w (-1) 0 sig frm to).fst.getD 0 default).frm != frm) = true → 0 ≤ subI .i64 (↑(ofR w (-1) 0 sig frm to).fst.length : Int) 1 ∧ subI .i64 (↑(ofR w (-1) 0 sig frm to).fst.length : Int) 1 < (↑(ofR w (-1) 0 sig frm to).fst.length : Int)) ∧ bif bif bif bif bif (ofR w (-1) 0 sig frm to).snd.fst != 0 then true else !validL (ofR w (-1) 0 sig frm to).fst then true else (↑(ofR w (-1) 0 sig frm to).fst.length : Int) == 0 then true else ((ofR w (-1) 0 sig frm to).fst.getD 0 default).frm != frm then true else ((ofR w (-1) 0 sig frm to).fst.getD (subI .i64 (↑(ofR w (-1) 0 sig frm to).fst.length : Int) 1).toNat default).to != to then K (B false) else At (En Try.f6) (fi Try.f6 K) [It.code [1, 1, 1, 1, 0, 1, 0], It.blk 0, It.code [1, 1, 1, 1, 1]] { sl := [(1, I sig), (2, I frm), (3, I to), (4, .own [L w.sig 3 Sig.d, L w.gap 2 Iv.d, I w.fin]), (9, L (ofR w (-1) 0 sig frm to).fst 3 Sp.d), (94, I 0)], h := { box := upd (fun _ => none) 0 (some (Row.lit [L w.sig 3 Sig.d, L w.gap 2 Iv.d, I w.fin, I (-1), I (ofR w (-1) 0 sig frm to).snd.snd])), nl := 4, hw := fun _ => none, nt := 1, vw := fun _ => none : Heap } : St }))) := by kernel_rfl
def SV (w : Wv) (sig frm to : Int) (l : List Sp) (t : Int) : St := ⟨[(1, I sig), (2, I frm), (3, I to), (4, .own [L w.sig 3 Sig.d, L w.gap 2 Iv.d, I w.fin]), (9, L l 3 Sp.d), (94, I t)], hR⟩
noncomputable def nVcs (w : Wv) (sig : Int) (l : List Sp) (t : Int) : List Nat → Nat → Option Ans := scrAt [([1, 1, 1, 1, 0, 1, 0, 0, 1, 1, 0, 0, 1, 0], 2, Ans.pure [L l 3 Sp.d, I t] (.tup [.str (atR l t).fst, I (atR l t).snd])), ([1, 1, 1, 1, 0, 1, 0, 0, 1, 1, 0, 0, 1, 1, 0], 22, Ans.pure [(w.sig.getD sig.toNat default).d, I t] (.str (sigAt (w.sig.getD sig.toNat default) t))), ([1, 1, 1, 1, 1, 0], 0, Ans.pure [] (B true))]
theorem nVc (w : Wv) (sig frm to : Int) (l : List Sp) (t : Int) (J : St → Prop) (K : D → Prop) : runS (En Try.f6) (fi Try.f6 K) (nVcs w sig l t) nolv 200 [.code [1, 1, 1, 1, 0, 1, 0, 0], stp [1, 2, 3, 4, 9, 94] J, .blk 0, .code [1, 1, 1, 1, 1]] (SV w sig frm to l t) =
  (bif decide (t < 61) then PureW PP 18 [L l 3 Sp.d, I t] [L l 3 Sp.d, I t] (.tup [.str (atR l t).fst, I (atR l t).snd]) ∧ (((!!((atR l t).snd == 0) == bif decide (frm ≤ t) then decide (t ≤ to) else false) && (atR l t).snd == 0) = true → 0 ≤ sig ∧ sig < (↑w.sig.length : Int)) ∧ (((!!((atR l t).snd == 0) == bif decide (frm ≤ t) then decide (t ≤ to) else false) && (atR l t).snd == 0) = true → PureW PP 16 [(w.sig.getD sig.toNat default).d, I t] [(w.sig.getD sig.toNat default).d, I t] (.str (sigAt (w.sig.getD sig.toNat default) t))) ∧ bif bif !((atR l t).snd == 0) == bif decide (frm ≤ t) then decide (t ≤ to) else false then true else bif (atR l t).snd == 0 then !(atR l t).fst == sigAt (w.sig.getD sig.toNat default) t else false then K (B false) else J { sl := [(1, I sig), (2, I frm), (3, I to), (4, .own [L w.sig 3 Sig.d, L w.gap 2 Iv.d, I w.fin]), (9, L l 3 Sp.d), (94, I (addI .i64 t 1))], h := { box := fun _ => none, nl := 4, hw := fun _ => none, nt := 1, vw := fun _ => none : Heap } : St } else PureW PP 10 [] [] (B true) ∧ K (B true)) := by kernel_rfl
theorem heap_hR {h : Heap} (hn : h.nl ≤ 4) (ht : h.nt ≤ 1) : HeapLe h hR := ⟨fun l row' e => (by cases e), hn, fun t n e => (by cases e), ht, fun t n e => (by cases e), fun _ _ => rfl⟩
theorem c6 (w : Wv) (sig frm to : Int) : Pure PP 6 [w.d, I sig, I frm, I to] (B true) := by
  refine pu F6 (by kernel_rfl) (of_eq (nVa w sig frm to _) ⟨PureW.mk (c9 _), fun _ => ⟨ask_in, cond_intro (fun _ => ⟨PureW.mk c10, Wk.refl _⟩) fun h => ?_⟩⟩)
  obtain ⟨hw, ha⟩ := ask_of h
  obtain ⟨_, q2, _⟩ := hw.at ha.hsig
  have hO := (ofR_ask hw (lim := -1) ha).1 (.inl (by omega))
  have hK := ofOk hw ha
  refine runS_sound hmix _ _ _ (of_eq (nVb w sig frm to _) ⟨e12 w, e11 hw.of 0, fun _ => PureW.mk (c17 _), ?_⟩)
  rw [hO]
  simp only
  generalize codeL (sigAt (sigOf w sig) frm) (cut (sigOf w sig).chg frm to) frm to = l at hK ⊢
  have hv : validL l = true := hK.vl.valid hK.ne
  have h0 : 0 < l.length := List.length_pos_iff.2 hK.ne
  have hlen := hK.len
  have hlast : subI .i64 (l.length : Int) 1 = ((l.length - 1 : Nat) : Int) := lastI h0 (by unfold lenM; omega)
  have hf : (l.getD 0 default).frm = frm := hK.vl.head hK.ne
  have ht : (l.getD (l.length - 1) default).to = to := hK.last
  have hz : ((l.length : Int) == 0) = false := by rw [beq_eq_false_iff_ne]; omega
  rw [hv, hlast, Int.toNat_natCast, hf, ht, hz]
  simp only [bne_self_eq_false, Bool.not_true, cond_false]
  refine fun _ => ⟨fun _ => ⟨by omega, by omega⟩, fun _ => ⟨fun _ => ⟨by omega, by omega⟩, ?_⟩⟩
  refine at_le (st' := SV w sig frm to l (0 : Nat)) ?_ (StLe.heapLe (heap_hR (Nat.le_refl _) (Nat.le_refl _)))
  refine lp (fn := Try.f6) (fun t : Nat => t ≤ 61) (fun t => SV w sig frm to l t) (fun t => 61 - t) [1, 2, 3, 4, 9, 94] (by kernel_rfl) (fun t ht => of_eq (nVc w sig frm to l t _ _) ?_) 0 (by omega)
  refine cond_intro (fun hlt => ?_) fun _ => ⟨PureW.mk c10, Wk.refl _⟩
  have hlt : (t : Int) < 61 := of_decide_eq_true hlt
  have ha1 : addI .i64 (t : Int) 1 = ((t + 1 : Nat) : Int) := by rw [add64 (by omega) (by omega)]; rfl
  rw [ha1]
  have hsg : w.sig.getD sig.toNat default = sigOf w sig := rfl
  rw [hsg]
  refine ⟨PureW.mk (c18 _ _ hv), fun _ => ha.hsig, fun _ => PureW.mk (c16 _ _ (by omega)), ?_⟩
  rw [hK.at t]
  by_cases hc : frm ≤ (t : Int) ∧ (t : Int) ≤ to
  · rw [if_pos hc, decide_eq_true hc.1, decide_eq_true hc.2]
    simp only [cond_true, beq_self_eq_true, Bool.not_true, cond_false]
    exact Nx.mk (t + 1) (by omega) (by omega)
  · rw [if_neg hc]
    have : (bif decide (frm ≤ (t : Int)) then decide ((t : Int) ≤ to) else false) = false := by
      cases h1 : decide (frm ≤ (t : Int)) with
      | false => rfl
      | true => exact decide_eq_false fun h2 => hc ⟨of_decide_eq_true h1, h2⟩
    rw [this, show (((2 : Int) == 0) = false) from rfl]
    simp only [beq_self_eq_true, Bool.not_true, cond_false]
    exact Nx.mk (t + 1) (by omega) (by omega)
end Go.Proofs.Ytjajmmdnplgjmaa.S1
/- Seat 2: few spans, validity by the reference, starts, clips, joins. -/
namespace Go.Proofs.Ytjajmmdnplgjmaa.S1
open Go Go.Ab Go.Proofs
def fewB (l : List Sp) : Bool := l.all (fun x => !decide ((x.val.length : Int) > 130)) && decide ((l.length : Int) ≤ 40)
/-- Does the reference refuse x behind p? -/
def badR (p : Option Sp) (x : Sp) : Bool :=
  bif bif bif decide (x.frm < 0) then true else decide (x.frm > x.to) then true else decide (x.to > 1099511627776) then true else match p with | none => false | some y => bif x.frm != addI .i64 y.to 1 then true else x.val == y.val
def chkR : Option Sp → List Sp → Bool
  | _, [] => true
  | p, x :: r => !badR p x && chkR (some x) r
def rvB (l : List Sp) : Bool := chkR none l && decide ((l.length : Int) > 0)
def mkC (x : Sp) : Chg := ⟨x.frm, x.val⟩
def startsL (l : List Sp) : List Chg := (l.drop 1).map mkC
def clip1 (frm to : Int) (x : Sp) : Option Sp :=
  if (if frm > x.frm then frm else x.frm) ≤ (if to < x.to then to else x.to) then some ⟨if frm > x.frm then frm else x.frm, if to < x.to then to else x.to, x.val⟩ else none
def clipL (l : List Sp) (frm to : Int) : List Sp := l.filterMap (clip1 frm to)
def catL (a b : List Sp) : List Sp := b.foldl (fun o x => lastTo (addS o x.frm x.val) x.to) a
theorem F19 : OkF 19 Try.f19 := ⟨by kernel_rfl, by kernel_rfl, by kernel_rfl⟩
def lv19 : List (List Nat × List Nat) := [([1, 0, 1, 0], [0, 3])]
noncomputable def nFews  : List Nat → Nat → Option Ans := scrAt []
theorem nFew (l : List Sp) (K : D → Prop) : runS (En Try.f19) (fi Try.f19 K) (nFews ) lv19 200 [.code []] ⟨argSlots 0 [L l 3 Sp.d], .empty⟩ =
  (At (En Try.f19) (fi Try.f19 K) [It.code [1, 0, 1, 0], It.blk 0, It.code [1, 1]] { sl := [(0, L l 3 Sp.d), (3, I 0)], h := Heap.empty : St }) := by kernel_rfl
def SFew (l : List Sp) (i : Int) : St := ⟨[(0, L l 3 Sp.d), (3, I i)], .empty⟩
noncomputable def nFewas  : List Nat → Nat → Option Ans := scrAt []
theorem nFewa (l : List Sp) (i : Int) (J : St → Prop) (K : D → Prop) : runS (En Try.f19) (fi Try.f19 K) (nFewas ) lv19 200 [.code [1, 0, 1, 0, 0], stp [0, 3] J, .blk 0, .code [1, 1]] (SFew l i) =
  (l.length ≤ lenM → bif decide (i < (↑l.length : Int)) then (0 ≤ i ∧ i < (↑l.length : Int)) ∧ ((l.getD i.toNat default).val.length ≤ strM → bif decide ((↑(l.getD i.toNat default).val.length : Int) > 130) then K (B false) else J { sl := [(0, L l 3 Sp.d), (3, I (addI .i64 i 1))], h := Heap.empty : St }) else l.length ≤ lenM → K (B (decide ((↑l.length : Int) ≤ 40)))) := by kernel_rfl
theorem F20 : OkF 20 Try.f20 := ⟨by kernel_rfl, by kernel_rfl, by kernel_rfl⟩
def lv20 : List (List Nat × List Nat) := [([1, 0, 1, 0], [0, 3])]
noncomputable def nrVs  : List Nat → Nat → Option Ans := scrAt []
theorem nrV (l : List Sp) (K : D → Prop) : runS (En Try.f20) (fi Try.f20 K) (nrVs ) lv20 200 [.code []] ⟨argSlots 0 [L l 3 Sp.d], .empty⟩ =
  (At (En Try.f20) (fi Try.f20 K) [It.code [1, 0, 1, 0], It.blk 0, It.code [1, 1]] { sl := [(0, L l 3 Sp.d), (3, I 0)], h := Heap.empty : St }) := by kernel_rfl
noncomputable def nrVas  : List Nat → Nat → Option Ans := scrAt []
theorem nrVa (l : List Sp) (i : Int) (J : St → Prop) (K : D → Prop) : runS (En Try.f20) (fi Try.f20 K) (nrVas ) lv20 200 [.code [1, 0, 1, 0, 0], stp [0, 3] J, .blk 0, .code [1, 1]] (SFew l i) =
  (l.length ≤ lenM →
  bif decide (i < (↑l.length : Int)) then
    (0 ≤ i ∧ i < (↑l.length : Int)) ∧
      ((!decide ((l.getD i.toNat default).frm < 0)) = true → 0 ≤ i ∧ i < (↑l.length : Int)) ∧
        ((!decide ((l.getD i.toNat default).frm < 0)) = true → 0 ≤ i ∧ i < (↑l.length : Int)) ∧
          ((!bif decide ((l.getD i.toNat default).frm < 0) then true else decide ((l.getD i.toNat default).frm > (l.getD i.toNat default).to)) = true → 0 ≤ i ∧ i < (↑l.length : Int)) ∧
            (((!bif bif decide ((l.getD i.toNat default).frm < 0) then true else decide ((l.getD i.toNat default).frm > (l.getD i.toNat default).to) then true else decide ((l.getD i.toNat default).to > 1099511627776)) && decide (i > 0)) = true → 0 ≤ i ∧ i < (↑l.length : Int)) ∧
              (((!bif bif decide ((l.getD i.toNat default).frm < 0) then true else decide ((l.getD i.toNat default).frm > (l.getD i.toNat default).to) then true else decide ((l.getD i.toNat default).to > 1099511627776)) && decide (i > 0)) = true → 0 ≤ subI .i64 i 1 ∧ subI .i64 i 1 < (↑l.length : Int)) ∧ (((!bif bif decide ((l.getD i.toNat default).frm < 0) then true else decide ((l.getD i.toNat default).frm > (l.getD i.toNat default).to) then true else decide ((l.getD i.toNat default).to > 1099511627776)) && decide (i > 0) && !(l.getD i.toNat default).frm != addI .i64 (l.getD (subI .i64 i 1).toNat default).to 1) = true → 0 ≤ i ∧ i < (↑l.length : Int)) ∧ (((!bif bif decide ((l.getD i.toNat default).frm < 0) then true else decide ((l.getD i.toNat default).frm > (l.getD i.toNat default).to) then true else decide ((l.getD i.toNat default).to > 1099511627776)) && decide (i > 0) && !(l.getD i.toNat default).frm != addI .i64 (l.getD (subI .i64 i 1).toNat default).to 1) = true → 0 ≤ subI .i64 i 1 ∧ subI .i64 i 1 < (↑l.length : Int)) ∧ bif bif bif bif decide ((l.getD i.toNat default).frm < 0) then true else decide ((l.getD i.toNat default).frm > (l.getD i.toNat default).to) then true else decide ((l.getD i.toNat default).to > 1099511627776) then true else bif decide (i > 0) then bif (l.getD i.toNat default).frm != addI .i64 (l.getD (subI .i64 i 1).toNat default).to 1 then true else (l.getD i.toNat default).val == (l.getD (subI .i64 i 1).toNat default).val else false then K (B false) else J { sl := [(0, L l 3 Sp.d), (3, I (addI .i64 i 1))], h := Heap.empty : St }
  else l.length ≤ lenM → K (B (decide ((↑l.length : Int) > 0)))) := by kernel_rfl
theorem F22 : OkF 22 Try.f22 := ⟨by kernel_rfl, by kernel_rfl, by kernel_rfl⟩
def lv22 : List (List Nat × List Nat) := [([1, 1, 1, 0, 1, 0], [3, 10, 11, 12])]
noncomputable def nSts (l : List Sp) : List Nat → Nat → Option Ans := scrAt [([1, 0, 0], 1, Ans.pure [L l 3 Sp.d] (B (validL l)))]
theorem nSt (l : List Sp) (K : D → Prop) : runS (En Try.f22) (fi Try.f22 K) (nSts l) lv22 200 [.code []] ⟨argSlots 0 [L l 3 Sp.d], .empty⟩ =
  (PureW PP 17 [L l 3 Sp.d] [L l 3 Sp.d] (B (validL l)) ∧ bif !validL l then K (.list 0 0 (fun _ => D.junk) .full) else ((0 : Int) ≤ 1 ∧ 1 ≤ (↑l.length : Int)) ∧ (l.length - 1 ≤ lenM → At (En Try.f22) (fi Try.f22 K) [It.code [1, 1, 1, 0, 1, 0], It.blk 0, It.code [1, 1, 1, 1]] { sl := [(3, .list 0 0 (fun _ => D.junk) .full), (10, .list (l.length - 1) 3 (dropG (fun i => (l.getD i default).d) 1) .none), (11, I (↑(l.length - 1) : Int)), (12, I 0)], h := Heap.empty : St })) := by kernel_rfl
def SSt (l : List Sp) (out : List Chg) (i : Int) : St := ⟨[(3, LT out 2 Chg.d 0), (10, L l 3 Sp.d), (11, I l.length), (12, I i)], hN out.length 1⟩
noncomputable def nStas  : List Nat → Nat → Option Ans := scrAt []
theorem nSta (l : List Sp) (out : List Chg) (i : Int) (J : St → Prop) (K : D → Prop) : runS (En Try.f22) (fi Try.f22 K) (nStas ) lv22 200 [.code [1, 1, 1, 0, 1, 0, 0], stp [3, 10, 11, 12] J, .blk 0, .code [1, 1, 1, 1]] (SSt l out i) =
  (bif decide (i < (↑l.length : Int)) then (0 ≤ i ∧ i < (↑l.length : Int)) ∧ True ∧ (upd (fun _ => none) 0 (some out.length) 0 = some out.length ∧ (out.length + 1) * 24 ≤ roomM) ∧ J { sl := [(3, .list (out.length + 1) 2 (catG out.length (fun i => (out.getD i default).d) (litG [.agg [I (l.getD i.toNat default).frm, .str (l.getD i.toNat default).val]])) (.tok 0 2)), (10, L l 3 Sp.d), (11, I (↑l.length : Int)), (12, I (addI .i64 i 1))], h := { box := fun _ => none, nl := 0, hw := upd (upd (fun _ => none) 0 (some out.length)) 0 (some (out.length + 1)), nt := 1, vw := fun _ => none : Heap } : St } else K (.list out.length 2 (fun i => (out.getD i default).d) (.tok 0 2))) := by kernel_rfl
theorem F23 : OkF 23 Try.f23 := ⟨by kernel_rfl, by kernel_rfl, by kernel_rfl⟩
def lv23 : List (List Nat × List Nat) := [([1, 1, 1, 0, 1, 0], [1, 2, 8, 26, 27, 28])]
noncomputable def nCps (l : List Sp) (frm : Int) (to : Int) : List Nat → Nat → Option Ans := scrAt [([1, 0, 0, 0], 1, Ans.pure [L l 3 Sp.d] (B (validL l))), ([1, 0, 0, 1, 1, 0], 7, Ans.pure [L l 3 Sp.d, I frm, I to] (B (decide ((l.getD 0 default).frm ≤ frm ∧ to ≤ (lastSp l).to))))]
theorem nCp (l : List Sp) (frm to : Int) (K : D → Prop) : runS (En Try.f23) (fi Try.f23 K) (nCps l frm to) lv23 200 [.code []] ⟨argSlots 0 [L l 3 Sp.d, I frm, I to], .empty⟩ =
  (PureW PP 17 [L l 3 Sp.d] [L l 3 Sp.d] (B (validL l)) ∧ bif !validL l then K (.tup [.list 0 0 (fun _ => D.junk) .full, I 1]) else ((!decide (frm > to)) = true → PureW PP 36 [L l 3 Sp.d, I frm, I to] [L l 3 Sp.d, I frm, I to] (B (decide ((l.getD 0 default).frm ≤ frm ∧ to ≤ (lastSp l).to)))) ∧ bif bif decide (frm > to) then true else !decide ((l.getD 0 default).frm ≤ frm ∧ to ≤ (lastSp l).to) then K (.tup [.list 0 0 (fun _ => D.junk) .full, I 2]) else l.length ≤ lenM → At (En Try.f23) (fi Try.f23 K) [It.code [1, 1, 1, 0, 1, 0], It.blk 1, It.code [1, 1, 1, 1]] { sl := [(1, I frm), (2, I to), (8, .list 0 0 (fun _ => D.junk) .full), (26, L l 3 Sp.d), (27, I (↑l.length : Int)), (28, I 0)], h := Heap.empty : St }) := by kernel_rfl
def SCp (l out : List Sp) (frm to i : Int) : St := ⟨[(1, I frm), (2, I to), (8, LT out 3 Sp.d 0), (26, L l 3 Sp.d), (27, I l.length), (28, I i)], hN out.length 1⟩
noncomputable def nCpas  : List Nat → Nat → Option Ans := scrAt []
theorem nCpa (l out : List Sp) (frm to i : Int) (J : St → Prop) (K : D → Prop) : runS (En Try.f23) (fi Try.f23 K) (nCpas ) lv23 200 [.code [1, 1, 1, 0, 1, 0, 0], stp [1, 2, 8, 26, 27, 28] J, .blk 1, .code [1, 1, 1, 1]] (SCp l out frm to i) =
  (bif decide (i < (↑l.length : Int)) then (0 ≤ i ∧ i < (↑l.length : Int)) ∧ True ∧ True ∧ True ∧ bif decide ((if frm > (l.getD i.toNat default).frm then frm else (l.getD i.toNat default).frm) ≤ if to < (l.getD i.toNat default).to then to else (l.getD i.toNat default).to) then (upd (fun _ => none) 0 (some out.length) 0 = some out.length ∧ (out.length + 1) * 32 ≤ roomM) ∧ J { sl := [(1, I frm), (2, I to), (8, .list (out.length + 1) 3 (catG out.length (fun i => (out.getD i default).d) (litG [.agg [I (if frm > (l.getD i.toNat default).frm then frm else (l.getD i.toNat default).frm), I (if to < (l.getD i.toNat default).to then to else (l.getD i.toNat default).to), .str (l.getD i.toNat default).val]])) (.tok 0 3)), (26, L l 3 Sp.d), (27, I (↑l.length : Int)), (28, I (addI .i64 i 1))], h := { box := fun _ => none, nl := 0, hw := upd (upd (fun _ => none) 0 (some out.length)) 0 (some (out.length + 1)), nt := 1, vw := fun _ => none : Heap } : St } else J { sl := [(1, I frm), (2, I to), (8, .list out.length 3 (fun i => (out.getD i default).d) (.tok 0 3)), (26, L l 3 Sp.d), (27, I (↑l.length : Int)), (28, I (addI .i64 i 1))], h := { box := fun _ => none, nl := 0, hw := upd (fun _ => none) 0 (some out.length), nt := 1, vw := fun _ => none : Heap } : St } else K (.tup [.list out.length 3 (fun i => (out.getD i default).d) (.tok 0 3), I 0])) := by kernel_rfl
theorem F40 : OkF 40 Try.f40 := ⟨by kernel_rfl, by kernel_rfl, by kernel_rfl⟩
def lv40 : List (List Nat × List Nat) := []
noncomputable def nCls  : List Nat → Nat → Option Ans := scrAt []
theorem nCl (l : List Sp) (K : D → Heap → Prop) : runS (EnV [] [7] Try.f40) (fh Try.f40 K) (nCls ) lv40 200 [.code []] ⟨argSlots 0 [L l 3 Sp.d], .empty⟩ =
  (0 < l.length ∧ ((0 < l.length ∨ 0 = 0) ∧ (0 + l.length) * 32 ≤ roomM) ∧ K (D.vec 0 (0 + l.length) 3) { box := fun _ => none, nl := 0, hw := upd (fun _ => none) 0 (some (0 + l.length)), nt := 1, vw := upd (fun _ => none) 0 (some (catG 0 (litG []) fun i => (l.getD i default).d)) : Heap }) := by kernel_rfl
theorem e40 (l : List Sp) (h0 : 0 < l.length) (hb : l.length ≤ 100000) : Does PP 40 [L l 3 Sp.d] .empty (.vec 0 l.length 3) (hVec l Sp.d) := by
  refine du F40 (by kernel_rfl) (of_eq (nCl l _) ⟨h0, ⟨.inl h0, by unfold roomM; omega⟩, ?_⟩)
  rw [catG_nil, Nat.zero_add]
  exact RetLe.refl _ _
theorem F24 : OkF 24 Try.f24 := ⟨by kernel_rfl, by kernel_rfl, by kernel_rfl⟩
def lv24 : List (List Nat × List Nat) := [([1, 1, 1, 0, 1, 0], [6, 34, 35, 36])]
noncomputable def nCcs (a : List Sp) (b : List Sp) : List Nat → Nat → Option Ans := scrAt [([1, 0, 0, 0], 1, Ans.pure [L a 3 Sp.d] (B (validL a))), ([1, 0, 0, 0], 5, Ans.pure [L b 3 Sp.d] (B (validL b))), ([1, 1, 0], 1, Ans.eff (D.vec 0 a.length 3) (hVec a Sp.d))]
theorem nCc (a b : List Sp) (K : D → Heap → Prop) : runS (En Try.f24) (fh Try.f24 K) (nCcs a b) lv24 200 [.code []] ⟨argSlots 0 [L a 3 Sp.d, L b 3 Sp.d], .empty⟩ =
  (PureW PP 17 [L a 3 Sp.d] [L a 3 Sp.d] (B (validL a)) ∧ ((!!validL a) = true → PureW PP 17 [L b 3 Sp.d] [L b 3 Sp.d] (B (validL b))) ∧ bif bif !validL a then true else !validL b then K (.tup [.list 0 0 (fun _ => D.junk) .full, I 1]) Heap.empty else ((0 : Int) ≤ 0 ∧ 0 < (↑b.length : Int)) ∧ (a.length ≤ lenM → (0 ≤ subI .i64 (↑a.length : Int) 1 ∧ subI .i64 (↑a.length : Int) 1 < (↑a.length : Int)) ∧ bif (b.getD 0 default).frm != addI .i64 (a.getD (subI .i64 (↑a.length : Int) 1).toNat default).to 1 then K (.tup [.list 0 0 (fun _ => D.junk) .full, I 2]) Heap.empty else Does PP 40 [L a 3 Sp.d] Heap.empty (D.vec 0 a.length 3) (hVec a Sp.d) ∧ (b.length ≤ lenM → At (En Try.f24) (fh Try.f24 K) [It.code [1, 1, 1, 0, 1, 0], It.blk 1, It.code [1, 1, 1, 1]] { sl := [(6, D.vec 0 a.length 3), (34, L b 3 Sp.d), (35, I (↑b.length : Int)), (36, I 0)], h := { box := fun _ => none, nl := 0, hw := upd (fun _ => none) 0 (some a.length), nt := 1, vw := upd (fun _ => none) 0 (some (cv a Sp.d)) : Heap } : St }))) := by kernel_rfl
def SCc (out b : List Sp) (i : Int) : St := ⟨[(6, .vec 0 out.length 3), (34, L b 3 Sp.d), (35, I b.length), (36, I i)], hVec out Sp.d⟩
noncomputable def nCcas (out : List Sp) (b : List Sp) (i : Int) : List Nat → Nat → Option Ans := scrAt [([1, 1, 1, 0, 1, 0, 0, 1, 1, 0, 0, 1], 5, Ans.eff (D.vec 0 (addS out (b.getD i.toNat default).frm (b.getD i.toNat default).val).length 3) (hVec (addS out (b.getD i.toNat default).frm (b.getD i.toNat default).val) Sp.d)), ([1, 1, 1, 0, 1, 0, 0, 1, 1, 0, 0, 1], 8, Ans.eff (D.vec 0 (addS out (b.getD i.toNat default).frm (b.getD i.toNat default).val).length 3) (hVec (lastTo (addS out (b.getD i.toNat default).frm (b.getD i.toNat default).val) (b.getD i.toNat default).to) Sp.d))]
theorem nCca (out b : List Sp) (i : Int) (J : St → Prop) (K : D → Heap → Prop) : runS (En Try.f24) (fh Try.f24 K) (nCcas out b i) lv24 200 [.code [1, 1, 1, 0, 1, 0, 0], stp [6, 34, 35, 36] J, .blk 1, .code [1, 1, 1, 1]] (SCc out b i) =
  (bif decide (i < (↑b.length : Int)) then (0 ≤ i ∧ i < (↑b.length : Int)) ∧ True ∧ Does PP 32 [D.vec 0 out.length 3, I (b.getD i.toNat default).frm, .str (b.getD i.toNat default).val] { box := fun _ => none, nl := 0, hw := upd (fun _ => none) 0 (some out.length), nt := 1, vw := upd (fun _ => none) 0 (some (cv out Sp.d)) : Heap } (D.vec 0 (addS out (b.getD i.toNat default).frm (b.getD i.toNat default).val).length 3) (hVec (addS out (b.getD i.toNat default).frm (b.getD i.toNat default).val) Sp.d) ∧ Does PP 34 [D.vec 0 (addS out (b.getD i.toNat default).frm (b.getD i.toNat default).val).length 3, I (b.getD i.toNat default).to] { box := fun _ => none, nl := 0, hw := upd (fun _ => none) 0 (some (addS out (b.getD i.toNat default).frm (b.getD i.toNat default).val).length), nt := 1, vw := upd (fun _ => none) 0 (some (cv (addS out (b.getD i.toNat default).frm (b.getD i.toNat default).val) Sp.d)) : Heap } (D.vec 0 (addS out (b.getD i.toNat default).frm (b.getD i.toNat default).val).length 3) (hVec (lastTo (addS out (b.getD i.toNat default).frm (b.getD i.toNat default).val) (b.getD i.toNat default).to) Sp.d) ∧ J { sl := [(6, D.vec 0 (addS out (b.getD i.toNat default).frm (b.getD i.toNat default).val).length 3), (34, L b 3 Sp.d), (35, I (↑b.length : Int)), (36, I (addI .i64 i 1))], h := { box := fun _ => none, nl := 0, hw := upd (fun _ => none) 0 (some (lastTo (addS out (b.getD i.toNat default).frm (b.getD i.toNat default).val) (b.getD i.toNat default).to).length), nt := 1, vw := upd (fun _ => none) 0 (some (cv (lastTo (addS out (b.getD i.toNat default).frm (b.getD i.toNat default).val) (b.getD i.toNat default).to) Sp.d)) : Heap } : St } else K (.tup [D.vec 0 out.length 3, I 0]) { box := fun _ => none, nl := 0, hw := upd (fun _ => none) 0 (some out.length), nt := 1, vw := upd (fun _ => none) 0 (some (cv out Sp.d)) : Heap }) := by kernel_rfl
theorem c19 (l : List Sp) : Pure PP 19 [L l 3 Sp.d] (B (fewB l)) := by
  refine pu F19 (by kernel_rfl) (of_eq (nFew l _) ?_)
  refine lp (fn := Try.f19) (fun i : Nat => i ≤ l.length ∧ l.all (fun x => !decide ((x.val.length : Int) > 130)) = (l.drop i).all (fun x => !decide ((x.val.length : Int) > 130))) (fun i => SFew l i) (fun i => l.length - i) [0, 3] (by kernel_rfl) (fun i hi => of_eq (nFewa l i _ _) fun hb => ?_) 0 ⟨Nat.zero_le _, rfl⟩
  obtain ⟨_, he⟩ := hi
  refine cond_intro (fun hlt => ?_) fun hge => fun _ => ?_
  · have hlt := ltI hlt
    rw [all_drop hlt] at he
    rw [add1 hlt hb, Int.toNat_natCast]
    refine ⟨⟨by omega, by omega⟩, fun _ => cond_intro (fun h => ?_) fun h => ?_⟩
    · unfold fewB; rw [he, h]; exact Wk.refl _
    · rw [h] at he
      exact Nx.mk (i + 1) ⟨hlt, by rw [he]; rfl⟩ (by omega)
  · unfold fewB
    rw [he, List.drop_of_length_le (geI hge)]
    exact Wk.refl _
theorem c20 (l : List Sp) : Pure PP 20 [L l 3 Sp.d] (B (rvB l)) := by
  refine pu F20 (by kernel_rfl) (of_eq (nrV l _) ?_)
  refine lp (fn := Try.f20) (fun i : Nat => i ≤ l.length ∧ chkR none l = chkR (prevAt l i) (l.drop i)) (fun i => SFew l i) (fun i => l.length - i) [0, 3] (by kernel_rfl) (fun i hi => of_eq (nrVa l i _ _) fun hl => ?_) 0 ⟨Nat.zero_le _, rfl⟩
  obtain ⟨_, he⟩ := hi
  refine cond_intro (fun hlt => ?_) fun hge => fun _ => ?_
  · have hlt := ltI hlt
    rw [drop_cons _ _ hlt] at he
    simp only [chkR] at he
    have hp : 0 < i → subI .i64 (i : Int) 1 = ((i - 1 : Nat) : Int) := fun h0 => lastI h0 (by omega)
    rw [add1 hlt hl, Int.toNat_natCast]
    have hbad : (bif bif bif decide ((l.getD i default).frm < 0) then true else decide ((l.getD i default).frm > (l.getD i default).to) then true else decide ((l.getD i default).to > 1099511627776) then true else bif decide ((i : Int) > 0) then bif (l.getD i default).frm != addI .i64 (l.getD (subI .i64 (i : Int) 1).toNat default).to 1 then true else (l.getD i default).val == (l.getD (subI .i64 (i : Int) 1).toNat default).val else false) = badR (prevAt l i) (l.getD i default) := by
      unfold badR
      cases i with
      | zero => rfl
      | succ i => rw [hp (by omega), Int.toNat_natCast, decide_eq_true (show ((i + 1 : Nat) : Int) > 0 by omega)]; rfl
    have hin : (0 : Int) ≤ (i : Int) ∧ (i : Int) < (l.length : Int) := ⟨by omega, by omega⟩
    have hpi : ∀ {c : Bool}, (c && decide ((i : Int) > 0)) = true → 0 ≤ subI .i64 (i : Int) 1 ∧ subI .i64 (i : Int) 1 < (l.length : Int) := fun h => by
      simp only [Bool.and_eq_true, decide_eq_true_eq] at h
      have := h.2
      rw [hp (by omega)]; omega
    refine ⟨hin, fun _ => hin, fun _ => hin, fun _ => hin, fun _ => hin, hpi, fun _ => hin, fun h => hpi ((Bool.and_eq_true _ _).mp h).1, ?_⟩
    rw [hbad]
    refine cond_intro (fun h => ?_) fun h => ?_
    · unfold rvB; rw [he, h]; exact Wk.refl _
    · exact Nx.mk (i + 1) ⟨hlt, by rw [he, h]; rfl⟩ (by omega)
  · unfold rvB
    rw [he, List.drop_of_length_le (geI hge)]
    exact Wk.refl _
theorem c22 (l : List Sp) (hv : validL l = true) (hb : l.length ≤ 100000) : Pure PP 22 [L l 3 Sp.d] (L (startsL l) 2 Chg.d) := by
  obtain ⟨h0, _, _, _⟩ := validL_facts hv
  refine pu F22 (by kernel_rfl) (of_eq (nSt l _) ⟨PureW.mk (c17 _), ?_⟩)
  rw [hv]
  refine ⟨⟨by omega, by omega⟩, fun _ => ?_⟩
  have hlen : (l.drop 1).length = l.length - 1 := by simp
  refine at_le (st' := SSt (l.drop 1) (((l.drop 1).take 0).map mkC) (0 : Nat)) ?_ (((StLe.set 10 (d' := L (l.drop 1) 3 Sp.d) rfl (Wk.listW hlen.symm (.inl rfl) (fun i hi => ?_) (.inr rfl)) rfl rfl).trans (StLe.idle _ none 3 2 (fun i => Chg.d (([] : List Chg).getD i default)) rfl)).cast ?_)
  · unfold startsL
    generalize l.drop 1 = q at hlen ⊢
    have hq : q.length ≤ 100000 := by omega
    rw [show q.map mkC = (q.take q.length).map mkC by rw [List.take_length]]
    refine lp (fn := Try.f22) (fun i : Nat => i ≤ q.length) (fun i => SSt q ((q.take i).map mkC) i) (fun i => q.length - i) [3, 10, 11, 12] (by kernel_rfl) (fun i hi => of_eq (nSta q _ i _ _) ?_) 0 (Nat.zero_le _)
    refine cond_intro (fun hlt => ?_) fun hge => ?_
    · have hlt := ltI hlt
      have hol : ((q.take i).map mkC).length = i := by simp; omega
      rw [add1 hlt (by unfold lenM; omega), Int.toNat_natCast]
      refine ⟨⟨by omega, by omega⟩, trivial, ⟨upd_same _ _ _, by unfold roomM; omega⟩, Nx.of (i + 1) (by omega) (by omega) ?_⟩
      have : (q.take (i + 1)).map mkC = (q.take i).map mkC ++ [mkC (q.getD i default)] := by rw [take_snoc _ _ hlt, List.map_append]; rfl
      rw [this]
      exact (StLe.set 3 rfl (Wk.snoc (x := mkC (q.getD i default))) rfl rfl).trans (StLe.heap (by simp [hN, upd_upd]))
    · have := geI hge
      rw [List.take_of_length_le this, List.take_length]
      exact Wk.tokL
  · have e : (l.drop 1).getD i default = l.getD (1 + i) default := by simp [List.getD, Nat.add_comm]
    rw [e]
    exact ⟨Wk.refl _, fun h => h⟩
  · unfold SSt
    rw [hlen]
    rfl
theorem c23 (l : List Sp) (frm to : Int) (hv : validL l = true) (hb : l.length ≤ 100000) (h : frm ≤ to) (hc : (l.getD 0 default).frm ≤ frm ∧ to ≤ (lastSp l).to) : Pure PP 23 [L l 3 Sp.d, I frm, I to] (.tup [L (clipL l frm to) 3 Sp.d, I 0]) := by
  obtain ⟨h0, _, _, _⟩ := validL_facts hv
  refine pu F23 (by kernel_rfl) (of_eq (nCp l frm to _) ⟨PureW.mk (c17 _), ?_⟩)
  rw [hv, decide_eq_false (show ¬ frm > to by omega), decide_eq_true hc]
  refine ⟨fun _ => by have := c36 l frm to h0; rw [decide_eq_true hc] at this; exact PureW.mk this, fun hl => ?_⟩
  refine at_le (st' := SCp l (clipL (l.take 0) frm to) frm to (0 : Nat)) ?_ ((StLe.idle _ none 8 3 (fun i => Sp.d (([] : List Sp).getD i default)) rfl).cast (by kernel_rfl))
  rw [show clipL l frm to = clipL (l.take l.length) frm to by rw [List.take_length]]
  refine lp (fn := Try.f23) (fun i : Nat => i ≤ l.length) (fun i => SCp l (clipL (l.take i) frm to) frm to i) (fun i => l.length - i) [1, 2, 8, 26, 27, 28] (by kernel_rfl) (fun i hi => of_eq (nCpa l _ frm to i _ _) ?_) 0 (Nat.zero_le _)
  refine cond_intro (fun hlt => ?_) fun hge => ?_
  · have hlt := ltI hlt
    have hol : (clipL (l.take i) frm to).length ≤ i := by
      have h1 : (clipL (l.take i) frm to).length ≤ (l.take i).length := List.length_filterMap_le _ _
      have h2 : (l.take i).length ≤ i := by simp; omega
      omega
    rw [add1 hlt hl, Int.toNat_natCast]
    have hst : clipL (l.take (i + 1)) frm to = clipL (l.take i) frm to ++ (clip1 frm to (l.getD i default)).toList := by
      unfold clipL
      rw [take_snoc _ _ hlt, List.filterMap_append]
      generalize l.getD i default = x
      cases hc1 : clip1 frm to x <;> simp [hc1]
    generalize clipL (l.take i) frm to = out at hol hst ⊢
    refine ⟨⟨by omega, by omega⟩, trivial, trivial, trivial, cond_intro (fun h => ?_) fun h => ?_⟩
    · have h : (if frm > (l.getD i default).frm then frm else (l.getD i default).frm) ≤ (if to < (l.getD i default).to then to else (l.getD i default).to) := of_decide_eq_true h
      rw [clip1, if_pos h] at hst
      refine ⟨⟨upd_same _ _ _, by unfold roomM; omega⟩, Nx.of (i + 1) (by omega) (by omega) ?_⟩
      rw [hst]
      exact (StLe.set 8 rfl (Wk.snoc (enc := Sp.d) (x := (⟨_, _, _⟩ : Sp))) rfl rfl).trans (StLe.heap (by simp [hN, upd_upd]))
    · have h : ¬ (if frm > (l.getD i default).frm then frm else (l.getD i default).frm) ≤ (if to < (l.getD i default).to then to else (l.getD i default).to) := of_decide_eq_false h
      rw [clip1, if_neg h, Option.toList_none, List.append_nil] at hst
      refine Nx.of (i + 1) (by omega) (by omega) ?_
      rw [hst]; exact StLe.refl _ _
  · rw [List.take_of_length_le (geI hge), List.take_length]
    exact Wk.tup (Wks.cons Wk.tokL (Wks.refl _))
theorem c24 (a b : List Sp) (va : validL a = true) (vb : validL b = true) (hab : a.length + b.length ≤ 10000) (h : (b.getD 0 default).frm = addI .i64 (lastSp a).to 1) : Pure PP 24 [L a 3 Sp.d, L b 3 Sp.d] (.tup [L (catL a b) 3 Sp.d, I 0]) := by
  obtain ⟨a0, _, _, _⟩ := validL_facts va
  obtain ⟨b0, _, _, _⟩ := validL_facts vb
  refine pr F24 (by kernel_rfl) (of_eq (nCc a b _) ⟨PureW.mk (c17 _), fun _ => PureW.mk (c17 _), ?_⟩)
  rw [va, vb]
  refine ⟨⟨by omega, by omega⟩, fun hl => ?_⟩
  rw [lastI a0 hl, Int.toNat_natCast, h]
  unfold lastSp
  simp only [bne_self_eq_false, cond_false]
  refine ⟨⟨by omega, by omega⟩, e40 a a0 (by omega), fun hlb => ?_⟩
  refine lp (fn := Try.f24) (fun z : Nat × List Sp => z.1 ≤ b.length ∧ z.2 ≠ [] ∧ z.2.length ≤ a.length + z.1 ∧ catL a b = catL z.2 (b.drop z.1)) (fun z => SCc z.2 b z.1) (fun z => b.length - z.1) [6, 34, 35, 36] (by kernel_rfl) (fun z hz => of_eq (nCca z.2 b z.1 _ _) ?_) (0, a) ⟨Nat.zero_le _, List.length_pos_iff.1 a0, Nat.le_refl _, rfl⟩
  obtain ⟨i, out⟩ := z
  obtain ⟨_, hne, hol, he⟩ := hz
  simp only at hne hol he ⊢
  refine cond_intro (fun hlt => ?_) fun hge => ?_
  · have hlt := ltI hlt
    rw [add1 hlt hlb, Int.toNat_natCast]
    rw [drop_cons _ _ hlt] at he
    generalize b.getD i default = x at he ⊢
    have hal := addS_len out x.frm x.val
    refine ⟨⟨by omega, by omega⟩, trivial, e32 _ _ _ (by omega), e34 _ _ (addS_ne _ _ _), Nx.of (i + 1, lastTo (addS out x.frm x.val) x.to) ⟨hlt, ?_, ?_, he⟩ (by simp only; omega) ?_⟩
    · intro e
      have e : lastTo (addS out x.frm x.val) x.to = [] := e
      have := lastTo_len (addS out x.frm x.val) x.to
      rw [e] at this
      exact addS_ne out x.frm x.val (List.length_eq_zero_iff.1 this.symm)
    · simp only [lastTo_len]; omega
    · simp only [SCc, hVec, lastTo_len]
      exact StLe.refl _ _
  · rw [he, List.drop_of_length_le (geI hge)]
    exact ret_vecP rfl
end Go.Proofs.Ytjajmmdnplgjmaa.S1
/- Seat 2: plain law of clips and joins. -/
namespace Go.Proofs.Ytjajmmdnplgjmaa.S1
open Go Go.Ab Go.Proofs
theorem badR_false {p : Option Sp} {x : Sp} (h : badR p x = false) : 0 ≤ x.frm ∧ x.frm ≤ x.to ∧ x.to ≤ 1099511627776 ∧ (match p with | none => True | some y => x.frm = addI .i64 y.to 1 ∧ y.val ≠ x.val) := by
  unfold badR at h
  simp only [Bool.cond_true_left, Bool.or_eq_false_iff, decide_eq_false_iff_not] at h
  obtain ⟨⟨⟨h1, h2⟩, h3⟩, h4⟩ := h
  refine ⟨by omega, by omega, by omega, ?_⟩
  cases p with
  | none => trivial
  | some y =>
    simp only [Bool.or_eq_false_iff, bne_eq_false_iff_eq, beq_eq_false_iff_ne] at h4
    exact ⟨h4.1, fun e => h4.2 e.symm⟩
theorem chkR_vl : ∀ {l : List Sp} {p : Option Sp} {f : Int}, chkR p l = true → (match p with | none => ∀ x ∈ l.head?, x.frm = f | some y => f = y.to + 1 ∧ 0 ≤ y.to ∧ y.to ≤ 1099511627776) → Vl f (p.map Sp.val) l
  | [], _, _, _, _ => trivial
  | x :: r, p, f, h, hp => by
    simp only [chkR, Bool.and_eq_true, Bool.not_eq_true'] at h
    obtain ⟨h1, h2⟩ := h
    obtain ⟨g1, g2, g3, g4⟩ := badR_false h1
    have ih : Vl (x.to + 1) (some x.val) r := chkR_vl (p := some x) h2 ⟨rfl, by omega, g3⟩
    cases p with
    | none =>
      have : x.frm = f := hp x rfl
      exact ⟨this, by omega, by omega, g3, by simp, ih⟩
    | some y =>
      simp only at hp g4
      obtain ⟨k1, k2, k3⟩ := hp
      obtain ⟨g4, g5⟩ := g4
      rw [add64 (by omega) (by omega)] at g4
      exact ⟨by omega, by omega, by omega, g3, fun e => g5 (Option.some.inj e), ih⟩
/-- A short valid list. -/
structure Vw (l : List Sp) : Prop where
  vl : Vl (l.getD 0 default).frm none l
  ne : l ≠ []
  len : l.length ≤ 40
theorem vw_of {l : List Sp} (h1 : fewB l = true) (h2 : rvB l = true) : Vw l := by
  unfold fewB at h1
  unfold rvB at h2
  simp only [Bool.and_eq_true, decide_eq_true_eq] at h1 h2
  refine ⟨chkR_vl (p := none) h2.1 fun x hx => ?_, fun e => ?_, by omega⟩
  · cases l with
    | nil => cases hx
    | cons y r => simp at hx; subst hx; rfl
  · have := h2.2
    rw [e] at this; simp at this
/-! The starts. -/
theorem starts_inc : ∀ {r : List Sp} {f s : Int} {p : Option Str}, Vl f p r → s < f → Inc s (r.map mkC)
  | [], _, _, _, _, _ => trivial
  | x :: r, f, s, p, ⟨h1, h2, h3, h4, h5, h6⟩, h => ⟨by show s < x.frm; omega, starts_inc h6 (by show x.frm < x.to + 1; omega)⟩
theorem starts_le : ∀ {r : List Sp} {f : Int} {p : Option Str}, Vl f p r → ∀ c ∈ r.map mkC, c.time ≤ (lastSp r).to ∧ c.time ≤ 1099511627776
  | [], _, _, _, _, h => by cases h
  | x :: r, f, p, h, c, hc => by
    have hl := h.last (by simp)
    obtain ⟨h1, h2, h3, h4, h5, h6⟩ := h
    rcases List.mem_cons.1 hc with rfl | hc
    · show x.frm ≤ _ ∧ x.frm ≤ _
      omega
    · have hr : r ≠ [] := by rintro rfl; cases hc
      rw [lastSp_cons' x hr]
      exact starts_le h6 c hc
theorem preV_gt : ∀ {ls : List Chg} {frm : Int} {v : Str}, Inc frm ls → preV frm v ls = (v, ls)
  | [], _, _, _ => rfl
  | x :: r, frm, v, h => by
    simp only [preV]
    rw [if_neg (by have := h.1; omega)]
theorem runL_fold (to : Int) : ∀ {ls : List Chg} {s : Int} (out : List Sp), Inc s ls → (∀ c ∈ ls, c.time ≤ to) → runL to ls out = ls.foldl (fun o x => addS o x.time x.val) out
  | [], _, _, _, _ => rfl
  | x :: r, s, out, ⟨h1, h2⟩, hb => by
    simp only [runL, List.foldl_cons]
    rw [if_pos (hb x (List.mem_cons_self ..)), if_neg]
    · exact runL_fold to _ h2 fun c hc => hb c (List.mem_cons_of_mem _ hc)
    · rintro ⟨k1, k2⟩
      cases r with
      | nil => exact k1 rfl
      | cons y r =>
        have : y.time = x.time := k2
        have := h2.1
        omega
theorem seg_starts : ∀ {r : List Sp} {x : Sp} {f : Int} {p : Option Str}, Vl f p (x :: r) → seg (lastSp (x :: r)).to x.frm x.val (r.map mkC) = x :: r
  | [], x, _, _, _ => rfl
  | y :: r, x, f, p, ⟨h1, h2, h3, h4, h5, h6⟩ => by
    rw [lastSp_cons]
    simp only [List.map_cons, seg, mkC]
    have hne : ¬ x.val = y.val := fun e => h6.2.2.2.2.1 (by rw [e])
    rw [if_neg hne]
    have e : y.frm - 1 = x.to := by have := h6.1; omega
    rw [e]
    exact congrArg (x :: ·) (seg_starts h6)
theorem again {l : List Sp} (h : Vw l) : fcR (l.getD 0 default).val (startsL l) (l.getD 0 default).frm (lastSp l).to = (l, 0) := by
  obtain ⟨hv, hne, _⟩ := h
  cases l with
  | nil => exact absurd rfl hne
  | cons x r =>
    have hl := hv.last hne
    have hs := seg_starts hv
    obtain ⟨h1, h2, h3, h4, h5, h6⟩ := hv
    have hx : (x :: r).getD 0 default = x := rfl
    have hst : startsL (x :: r) = r.map mkC := rfl
    rw [hx] at h2 h3 hl ⊢
    rw [hst]
    have hi : Inc x.frm (r.map mkC) := starts_inc h6 (by omega)
    have hb : ∀ c ∈ r.map mkC, c.time ≤ (lastSp (x :: r)).to ∧ c.time ≤ 1099511627776 := fun c hc => by
      have hr : r ≠ [] := by rintro rfl; cases hc
      rw [lastSp_cons' x hr]
      exact starts_le h6 c hc
    unfold fcR
    rw [if_pos ⟨h2, hl.1, hl.2⟩, if_pos (srt_inc hi trivial), preV_gt hi]
    simp only
    rw [runL_fold _ _ hi fun c hc => (hb c hc).1]
    have := seg_fold (lastSp (x :: r)).to (r.map mkC) [] x.frm 0 x.val h2 hi fun c hc => (hb c hc).2
    rw [List.nil_append, List.nil_append, hs] at this
    rw [this]
/-! Clips. -/
def headL : List Sp → Int → List Sp
  | [], _ => []
  | x :: r, t => if t ≤ x.to then [⟨x.frm, t, x.val⟩] else x :: headL r t
def tailS : List Sp → Int → List Sp
  | [], _ => []
  | x :: r, s => if x.to < s then tailS r s else (if s > x.frm then ⟨s, x.to, x.val⟩ else x) :: r
theorem clip_none {frm t : Int} : ∀ {l : List Sp} {f : Int} {p : Option Str}, Vl f p l → t < f → clipL l frm t = []
  | [], _, _, _, _ => rfl
  | x :: r, f, p, ⟨h1, h2, h3, h4, h5, h6⟩, h => by
    unfold clipL
    rw [List.filterMap_cons, clip1, if_neg]
    · exact clip_none h6 (by omega)
    · split <;> split <;> omega
theorem clip_head {frm t : Int} : ∀ {l : List Sp} {f : Int} {p : Option Str}, Vl f p l → frm ≤ f → f ≤ t → clipL l frm t = headL l t
  | [], _, _, _, _, _ => rfl
  | x :: r, f, p, ⟨h1, h2, h3, h4, h5, h6⟩, hf, ht => by
    unfold clipL
    simp only [headL]
    have hmx : (if frm > x.frm then frm else x.frm) = x.frm := if_neg (by omega)
    by_cases hx : t ≤ x.to
    · have hmn : (if t < x.to then t else x.to) = t := by split <;> omega
      rw [if_pos hx, List.filterMap_cons, clip1, hmx, hmn, if_pos (by omega)]
      simp only
      have := clip_none (frm := frm) (t := t) h6 (by omega)
      unfold clipL at this
      rw [this]
    · have hmn : (if t < x.to then t else x.to) = x.to := if_neg (by omega)
      rw [if_neg hx, List.filterMap_cons, clip1, hmx, hmn, if_pos (by omega)]
      exact congrArg (x :: ·) (clip_head h6 (by omega) (by omega))
theorem clip_all {s t : Int} : ∀ {l : List Sp} {f : Int} {p : Option Str}, Vl f p l → s ≤ f → (l ≠ [] → (lastSp l).to ≤ t) → clipL l s t = l
  | [], _, _, _, _, _ => rfl
  | x :: r, f, p, h, hs, ht => by
    have ht := ht (by simp)
    have hxl : x.to ≤ (lastSp (x :: r)).to := by
      cases r with
      | nil => exact Int.le_refl _
      | cons y q => rw [lastSp_cons]; have := Vl.last h.2.2.2.2.2 (by simp); omega
    obtain ⟨h1, h2, h3, h4, h5, h6⟩ := h
    unfold clipL
    rw [List.filterMap_cons, clip1, show (if s > x.frm then s else x.frm) = x.frm from if_neg (by omega), show (if t < x.to then t else x.to) = x.to from if_neg (by omega), if_pos (by omega)]
    exact congrArg (x :: ·) (clip_all h6 (by omega) fun hr => by rw [lastSp_cons' x hr] at ht; exact ht)
theorem clip_tail {s t : Int} : ∀ {l : List Sp} {f : Int} {p : Option Str}, Vl f p l → (lastSp l).to = t → f ≤ s → clipL l s t = tailS l s
  | [], _, _, _, _, _ => rfl
  | x :: r, f, p, h, ht, hf => by
    have hxl : x.to ≤ (lastSp (x :: r)).to := by
      cases r with
      | nil => exact Int.le_refl _
      | cons y q => rw [lastSp_cons]; have := Vl.last h.2.2.2.2.2 (by simp); omega
    obtain ⟨h1, h2, h3, h4, h5, h6⟩ := h
    unfold clipL
    simp only [tailS]
    have hmn : (if t < x.to then t else x.to) = x.to := if_neg (by omega)
    by_cases hx : x.to < s
    · rw [if_pos hx, List.filterMap_cons, clip1, hmn, if_neg (by split <;> omega)]
      cases r with
      | nil => rfl
      | cons y q =>
        rw [lastSp_cons] at ht
        exact clip_tail h6 ht (by omega)
    · rw [if_neg hx, List.filterMap_cons, clip1, hmn, if_pos (by split <;> omega)]
      have hr := clip_all (s := s) (t := t) h6 (by omega) fun hr => by rw [lastSp_cons' x hr] at ht; omega
      unfold clipL at hr
      simp only
      rw [hr]
      congr 1
      by_cases hs : s > x.frm
      · rw [if_pos hs, if_pos hs]
      · rw [if_neg hs, if_neg hs]
theorem cat_all : ∀ {r : List Sp} {x : Sp} (acc : List Sp), x.to ≤ 1099511627776 → 0 ≤ x.to → Vl (x.to + 1) (some x.val) r → catL (acc ++ [x]) r = acc ++ x :: r
  | [], _, _, _, _, _ => rfl
  | y :: r, x, acc, hx, hx0, ⟨h1, h2, h3, h4, h5, h6⟩ => by
    unfold catL
    rw [List.foldl_cons, addS_snoc, if_neg (fun e => h5 (by rw [e])), sub64 (by omega) (by omega), show y.frm - 1 = x.to by omega, lastTo_snoc]
    have := cat_all (r := r) (x := y) (acc ++ [x]) h4 (by omega) h6
    unfold catL at this
    rw [this]
    simp
theorem cat_ok : ∀ {l : List Sp} {f t : Int} {p : Option Str} (acc : List Sp), Vl f p l → l ≠ [] → f ≤ t → t < (lastSp l).to → catL (acc ++ headL l t) (tailS l (t + 1)) = acc ++ l
  | [], _, _, _, _, _, h, _, _ => absurd rfl h
  | x :: r, f, t, p, acc, ⟨h1, h2, h3, h4, h5, h6⟩, _, hf, ht => by
    simp only [headL, tailS]
    by_cases hx : t ≤ x.to
    · rw [if_pos hx]
      by_cases hx2 : x.to < t + 1
      · rw [if_pos hx2]
        have e : t = x.to := by omega
        have hr : r ≠ [] := by rintro rfl; exact absurd ht (by show ¬ t < x.to; omega)
        have htail : tailS r (t + 1) = r := by
          cases r with
          | nil => exact absurd rfl hr
          | cons y q =>
            obtain ⟨k1, _, k3, _⟩ := h6
            simp only [tailS]
            rw [if_neg (by omega), if_neg (by omega)]
        rw [htail, show (⟨x.frm, t, x.val⟩ : Sp) = x by rw [e]]
        exact cat_all acc h4 (by omega) h6
      · rw [if_neg hx2, if_pos (by omega)]
        unfold catL
        rw [List.foldl_cons, addS_snoc, if_pos rfl, lastTo_snoc]
        exact cat_all (x := x) acc h4 (by omega) h6
    · rw [if_neg hx, if_pos (by omega)]
      have hr : r ≠ [] := by rintro rfl; exact absurd ht (by show ¬ t < x.to; omega)
      rw [lastSp_cons' x hr] at ht
      have := cat_ok (acc ++ [x]) h6 hr (by omega : x.to + 1 ≤ t) ht
      simp only [List.append_assoc, List.singleton_append] at this
      exact this
theorem headL_vl {t : Int} : ∀ {l : List Sp} {f : Int} {p : Option Str}, Vl f p l → l ≠ [] → f ≤ t → t ≤ (lastSp l).to → Vl f p (headL l t) ∧ headL l t ≠ [] ∧ (lastSp (headL l t)).to = t ∧ (headL l t).length ≤ l.length
  | [], _, _, _, h, _, _ => absurd rfl h
  | x :: r, f, p, h, _, hf, ht => by
    have hM := (h.last (by simp)).2
    obtain ⟨h1, h2, h3, h4, h5, h6⟩ := h
    simp only [headL]
    by_cases hx : t ≤ x.to
    · rw [if_pos hx]
      exact ⟨⟨h1, h2, hf, by show t ≤ _; omega, h5, trivial⟩, by simp, rfl, by simp⟩
    · rw [if_neg hx]
      have hr : r ≠ [] := by rintro rfl; exact absurd ht (by show ¬ t ≤ x.to; omega)
      rw [lastSp_cons' x hr] at ht
      obtain ⟨g1, g2, g3, g4⟩ := headL_vl h6 hr (by omega) ht
      exact ⟨⟨h1, h2, h3, h4, h5, g1⟩, by simp, by rw [lastSp_cons' x g2]; exact g3, by simp only [List.length_cons]; omega⟩
theorem tailS_vl {s : Int} : ∀ {l : List Sp} {f : Int} {p : Option Str}, Vl f p l → l ≠ [] → f ≤ s → s ≤ (lastSp l).to → Vl s none (tailS l s) ∧ tailS l s ≠ [] ∧ (lastSp (tailS l s)).to = (lastSp l).to ∧ (tailS l s).length ≤ l.length
  | [], _, _, _, h, _, _ => absurd rfl h
  | x :: r, f, p, ⟨h1, h2, h3, h4, h5, h6⟩, _, hf, ht => by
    simp only [tailS]
    by_cases hx : x.to < s
    · rw [if_pos hx]
      have hr : r ≠ [] := by rintro rfl; exact absurd ht (by show ¬ s ≤ x.to; omega)
      rw [lastSp_cons' x hr] at ht ⊢
      obtain ⟨g1, g2, g3, g4⟩ := tailS_vl h6 hr (by omega) ht
      exact ⟨g1, g2, g3, by simp only [List.length_cons]; omega⟩
    · rw [if_neg hx]
      have hlast : ∀ y : Sp, y.to = x.to → (lastSp (y :: r)).to = (lastSp (x :: r)).to := fun y hy => by
        cases r with
        | nil => exact hy
        | cons z q => rw [lastSp_cons, lastSp_cons]
      by_cases hs : s > x.frm
      · rw [if_pos hs]
        exact ⟨⟨rfl, by omega, by show s ≤ x.to; omega, h4, by simp, h6⟩, by simp, hlast _ rfl, by simp⟩
      · rw [if_neg hs]
        exact ⟨⟨by omega, by omega, by omega, h4, by simp, h6⟩, by simp, rfl, by simp⟩
end Go.Proofs.Ytjajmmdnplgjmaa.S1
/- Seat 2: the law on joins. -/
namespace Go.Proofs.Ytjajmmdnplgjmaa.S1
open Go Go.Ab Go.Proofs
def lvJa : List (List Nat × List Nat) := [([1, 1, 1, 1, 1, 1, 0], [0, 1, 5, 6])]
theorem F7 : OkF 7 Try.f7 := ⟨by kernel_rfl, by kernel_rfl, by kernel_rfl⟩
def lv7 : List (List Nat × List Nat) := []
noncomputable def nJs (l : List Sp) : List Nat → Nat → Option Ans := scrAt [([1, 0, 0], 1, Ans.pure [L l 3 Sp.d] (B (fewB l))), ([1, 0, 0], 5, Ans.pure [L l 3 Sp.d] (B (rvB l))), ([1, 0, 1, 0, 0], 0, Ans.pure [] (B true)), ([1, 1, 1, 0], 5, Ans.pure [L l 3 Sp.d] (L (startsL l) 2 Chg.d)), ([1, 1, 1, 0], 8, Ans.pure [.str (l.getD 0 default).val, L (startsL l) 2 Chg.d, I (l.getD 0 default).frm, I (l.getD (subI .i64 (↑l.length : Int) 1).toNat default).to] (.tup [L (fcR (l.getD 0 default).val (startsL l) (l.getD 0 default).frm (l.getD (subI .i64 (↑l.length : Int) 1).toNat default).to).fst 3 Sp.d, I (fcR (l.getD 0 default).val (startsL l) (l.getD 0 default).frm (l.getD (subI .i64 (↑l.length : Int) 1).toNat default).to).snd])), ([1, 1, 1, 1, 0, 0], 5, Ans.pure [L l 3 Sp.d, L l 3 Sp.d] (B true)), ([1, 1, 1, 1, 1, 0, 1, 0, 0], 0, Ans.pure [] (B true))]
theorem nJ (l : List Sp) (t : Int) (K : D → Prop) : runS (En Try.f7) (fi Try.f7 K) (nJs l) lvJa 200 [.code []] ⟨argSlots 0 [L l 3 Sp.d, I t], .empty⟩ =
  (PureW PP 19 [L l 3 Sp.d] [L l 3 Sp.d] (B (fewB l)) ∧
  ((!!fewB l) = true → PureW PP 20 [L l 3 Sp.d] [L l 3 Sp.d] (B (rvB l))) ∧
    bif bif !fewB l then true else !rvB l then PureW PP 10 [] [] (B true) ∧ K (B true)
    else
      ((0 : Int) ≤ 0 ∧ 0 < (↑l.length : Int)) ∧
        (l.length ≤ lenM →
          (0 ≤ subI .i64 (↑l.length : Int) 1 ∧ subI .i64 (↑l.length : Int) 1 < (↑l.length : Int)) ∧ ((0 : Int) ≤ 0 ∧ 0 < (↑l.length : Int)) ∧ PureW PP 22 [L l 3 Sp.d] [L l 3 Sp.d] (L (startsL l) 2 Chg.d) ∧ PureW PP 21 [.str (l.getD 0 default).val, L (startsL l) 2 Chg.d, I (l.getD 0 default).frm, I (l.getD (subI .i64 (↑l.length : Int) 1).toNat default).to] [.str (l.getD 0 default).val, L (startsL l) 2 Chg.d, I (l.getD 0 default).frm, I (l.getD (subI .i64 (↑l.length : Int) 1).toNat default).to] (.tup [L (fcR (l.getD 0 default).val (startsL l) (l.getD 0 default).frm (l.getD (subI .i64 (↑l.length : Int) 1).toNat default).to).fst 3 Sp.d, I (fcR (l.getD 0 default).val (startsL l) (l.getD 0 default).frm (l.getD (subI .i64 (↑l.length : Int) 1).toNat default).to).snd]) ∧ ((!(fcR (l.getD 0 default).val (startsL l) (l.getD 0 default).frm (l.getD (subI .i64 (↑l.length : Int) 1).toNat default).to).snd != 0) = true → PureW PP 14 [L (fcR (l.getD 0 default).val (startsL l) (l.getD 0 default).frm (l.getD (subI .i64 (↑l.length : Int) 1).toNat default).to).fst 3 Sp.d, L l 3 Sp.d] [L l 3 Sp.d, L l 3 Sp.d] (B true)) ∧ bif bif (fcR (l.getD 0 default).val (startsL l) (l.getD 0 default).frm (l.getD (subI .i64 (↑l.length : Int) 1).toNat default).to).snd != 0 then true else false then K (B false) else bif bif decide (t < (l.getD (Int.toNat 0) default).frm) then true else decide (t ≥ (l.getD (subI .i64 (↑l.length : Int) 1).toNat default).to) then PureW PP 10 [] [] (B true) ∧ K (B true) else At (En Try.f7) (fi Try.f7 K) [It.code [1, 1, 1, 1, 1, 1, 0], It.code [1, 1, 1, 1, 1, 1, 1]] { sl := [(0, L l 3 Sp.d), (1, I t), (5, I (l.getD 0 default).frm), (6, I (l.getD (subI .i64 (↑l.length : Int) 1).toNat default).to)], h := Heap.empty : St })) := by kernel_rfl
noncomputable def nJbs (l : List Sp) (t : Int) (frm : Int) (to : Int) : List Nat → Nat → Option Ans := scrAt [([1, 1, 1, 1, 1, 1, 0], 3, Ans.pure [L l 3 Sp.d, I frm, I t] (.tup [L (clipL l frm t) 3 Sp.d, I 0])), ([1, 1, 1, 1, 1, 1, 1, 0], 4, Ans.pure [L l 3 Sp.d, I (addI .i64 t 1), I to] (.tup [L (clipL l (addI .i64 t 1) to) 3 Sp.d, I 0])), ([1, 1, 1, 1, 1, 1, 1, 1, 0], 2, Ans.pure [L (clipL l frm t) 3 Sp.d, L (clipL l (addI .i64 t 1) to) 3 Sp.d] (.tup [L (catL (clipL l frm t) (clipL l (addI .i64 t 1) to)) 3 Sp.d, I 0])), ([1, 1, 1, 1, 1, 1, 1, 1, 1, 0], 13, Ans.pure [L l 3 Sp.d, L l 3 Sp.d] (B true)), ([1, 1, 1, 1, 1, 1, 1, 1, 1, 0], 16, Ans.pure [] (B true))]
theorem nJb (l : List Sp) (t frm to : Int) (K : D → Prop) : runS (En Try.f7) (fi Try.f7 K) (nJbs l t frm to) nolv 200 [.code [1, 1, 1, 1, 1, 1, 0], .code [1, 1, 1, 1, 1, 1, 1]] ⟨[(0, L l 3 Sp.d), (1, I t), (5, I frm), (6, I to)], .empty⟩ =
  (PureW PP 23 [L l 3 Sp.d, I frm, I t] [L l 3 Sp.d, I frm, I t] (.tup [L (clipL l frm t) 3 Sp.d, I 0]) ∧ PureW PP 23 [L l 3 Sp.d, I (addI .i64 t 1), I to] [L l 3 Sp.d, I (addI .i64 t 1), I to] (.tup [L (clipL l (addI .i64 t 1) to) 3 Sp.d, I 0]) ∧ PureW PP 24 [L (clipL l frm t) 3 Sp.d, L (clipL l (addI .i64 t 1) to) 3 Sp.d] [L (clipL l frm t) 3 Sp.d, L (clipL l (addI .i64 t 1) to) 3 Sp.d] (.tup [L (catL (clipL l frm t) (clipL l (addI .i64 t 1) to)) 3 Sp.d, I 0]) ∧ (true = true → PureW PP 14 [L (catL (clipL l frm t) (clipL l (addI .i64 t 1) to)) 3 Sp.d, L l 3 Sp.d] [L l 3 Sp.d, L l 3 Sp.d] (B true)) ∧ (true = true → PureW PP 10 [] [] (B true)) ∧ K (B true)) := by kernel_rfl
theorem c7 (l : List Sp) (t : Int) : Pure PP 7 [L l 3 Sp.d, I t] (B true) := by
  refine pu F7 (by kernel_rfl) (of_eq (nJ l t _) ⟨PureW.mk (c19 _), fun _ => PureW.mk (c20 _), cond_intro (fun _ => ⟨PureW.mk c10, Wk.refl _⟩) fun h => ?_⟩)
  simp only [Bool.cond_true_left, Bool.or_eq_false_iff, Bool.not_eq_false'] at h
  have hw := vw_of h.1 h.2
  obtain ⟨hv, hne, hlen⟩ := id hw
  have hl : l.length ≤ lenM := by unfold lenM; omega
  have h0 : 0 < l.length := List.length_pos_iff.2 hne
  have hvl : validL l = true := hv.valid hne
  have hag := again hw
  have hlast := hv.last hne
  have hlt : l.getD (l.length - 1) default = lastSp l := rfl
  have hf0 : 0 ≤ (l.getD 0 default).frm := (validL_facts hvl).2.1
  have hsl : (startsL l).length ≤ 50000 := by unfold startsL; simp; omega
  rw [lastI h0 hl, Int.toNat_natCast, hlt, hag]
  refine ⟨⟨by omega, by omega⟩, fun _ => ⟨⟨by omega, by omega⟩, ⟨by omega, by omega⟩, PureW.mk (c22 _ hvl (by omega)), by have := c21 (l.getD 0 default).val (startsL l) (l.getD 0 default).frm (lastSp l).to hsl; rw [hag] at this; exact PureW.mk this, fun _ => PureW.mk (c14 _), ?_⟩⟩
  simp only [bne_self_eq_false, cond_false]
  refine cond_intro (fun _ => ⟨PureW.mk c10, Wk.refl _⟩) fun h => ?_
  have hr : (l.getD 0 default).frm ≤ t ∧ t < (lastSp l).to := by
    simp only [Bool.cond_true_left, Bool.or_eq_false_iff, decide_eq_false_iff_not] at h
    obtain ⟨k1, k2⟩ := h
    have k1 : ¬ t < (l.getD 0 default).frm := k1
    omega
  obtain ⟨r1, r2⟩ := hr
  have hca := clip_head (frm := (l.getD 0 default).frm) (t := t) hv (Int.le_refl _) r1
  have hcb := clip_tail (s := t + 1) hv rfl (by omega : (l.getD 0 default).frm ≤ t + 1)
  have hj := cat_ok [] hv hne r1 r2
  rw [List.nil_append, List.nil_append, ← hca, ← hcb] at hj
  obtain ⟨a1, a2, a3, a4⟩ := headL_vl hv hne r1 (by omega)
  obtain ⟨b1, b2, b3, b4⟩ := tailS_vl hv hne (by omega : (l.getD 0 default).frm ≤ t + 1) (by omega)
  rw [← hca] at a1 a2 a3 a4
  rw [← hcb] at b1 b2 b3 b4
  have ha : addI .i64 t 1 = t + 1 := add64 (by omega) (by omega)
  refine runS_sound hmix _ _ _ (of_eq (nJb l t (l.getD 0 default).frm (lastSp l).to _) ?_)
  rw [ha, hj]
  refine ⟨PureW.mk (c23 _ _ _ hvl (by omega) r1 ⟨Int.le_refl _, by omega⟩), PureW.mk (c23 _ _ _ hvl (by omega) (by omega) ⟨by omega, Int.le_refl _⟩), ?_, fun _ => PureW.mk (c14 _), fun _ => PureW.mk c10, Wk.refl _⟩
  have := c24 _ _ (a1.valid a2) (b1.valid b2) (by omega) (by rw [b1.head b2, a3, ha])
  rw [hj] at this
  exact PureW.mk this
end Go.Proofs.Ytjajmmdnplgjmaa.S1
