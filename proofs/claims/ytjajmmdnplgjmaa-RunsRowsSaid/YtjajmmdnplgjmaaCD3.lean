/- Seat 2: what Of answers, by the reference; the law on Of. -/
import Derived.Test.YtjajmmdnplgjmaaCD2
import Derived.Test.YtjajmmdnplgjmaaRows
namespace Go.Proofs.Ytjajmmdnplgjmaa.S1
open Go Go.Ab Go.Proofs
theorem over_eq {lim c : Int} (h0 : 0 ≤ c) (h : c ≤ 1000000) : over lim c = decide (lim ≥ 0 ∧ c + 1 > lim) := by
  unfold over
  rw [add64 (by omega) (by omega)]
  by_cases h1 : lim ≥ 0
  · rw [decide_eq_true h1]; simp [h1]
  · rw [decide_eq_false h1]; simp [h1]
theorem cut_cons {at_ to : Int} {x : Chg} {l : List Chg} (h : Inc at_ (x :: l)) (ht : x.time ≤ to) : cut (x :: l) at_ to = x :: cut l x.time to := by
  obtain ⟨h1, h2⟩ := h
  have hgt := Inc.gt h2
  simp only [cut, List.filter_cons, decide_eq_true (show x.time > at_ by omega), decide_eq_true ht, Bool.and_self, if_true]
  congr 1
  refine List.filter_congr fun y hy => ?_
  have := hgt y hy
  rw [decide_eq_true (show y.time > at_ by omega), decide_eq_true (show y.time > x.time by omega)]
theorem cut_stop {at_ to : Int} {x : Chg} {l : List Chg} (h : Inc at_ (x :: l)) (ht : x.time > to) : cut (x :: l) at_ to = [] := by
  unfold cut
  rw [List.filter_eq_nil_iff]
  intro y hy
  have : to < y.time := by
    rcases List.mem_cons.1 hy with rfl | hy
    · exact ht
    · have := Inc.gt h.2 y hy; omega
  simp; omega
/-- The rounds: all of them, or the source's error. -/
theorem itR_plain (to lim : Int) : ∀ (b : List Chg) (at_ c : Int) (out : List Sp), Inc at_ b → 0 ≤ c → c + b.length ≤ 999999 →
    ((lim < 0 ∨ c + (cut b at_ to).length + 1 ≤ lim) → itR lim to b c out = ((cut b at_ to).foldl (fun o x => addS o x.time x.val) out, c + (cut b at_ to).length + 1, 0)) ∧
    (¬ (lim < 0 ∨ c + (cut b at_ to).length + 1 ≤ lim) → (itR lim to b c out).2.2 = 14)
  | [], at_, c, out, _, h0, hl => by
    simp only [List.length_nil] at hl
    have ho := over_eq (lim := lim) h0 (by omega)
    have ha : addI .i64 c 1 = c + 1 := add64 (by omega) (by omega)
    simp only [itR, ha, ho, cut, List.filter_nil, List.length_nil, List.foldl_nil]
    refine ⟨fun h => ?_, fun h => ?_⟩
    · rw [decide_eq_false (by omega)]; simp
    · rw [decide_eq_true (by omega)]; rfl
  | x :: l, at_, c, out, hi, h0, hl => by
    simp only [List.length_cons] at hl
    have ho := over_eq (lim := lim) h0 (by omega)
    have ha : addI .i64 c 1 = c + 1 := add64 (by omega) (by omega)
    have hi2 := hi
    obtain ⟨h1, h2⟩ := hi2
    simp only [itR, ha, ho]
    by_cases ht : x.time > to
    · rw [cut_stop hi ht, decide_eq_true ht]
      simp only [List.length_nil, List.foldl_nil, cond_true]
      refine ⟨fun h => ?_, fun h => ?_⟩
      · rw [decide_eq_false (by omega)]; simp
      · rw [decide_eq_true (by omega)]; rfl
    · rw [cut_cons hi (by omega), decide_eq_false ht]
      simp only [List.length_cons, List.foldl_cons, cond_false]
      have ih := itR_plain to lim l x.time (c + 1) (addS out x.time x.val) h2 (by omega) (by omega)
      refine ⟨fun h => ?_, fun h => ?_⟩
      · rw [decide_eq_false (by omega)]
        simp only [cond_false]
        rw [ih.1 (by omega)]
        congr 2
        push_cast; omega
      · by_cases hc : lim ≥ 0 ∧ c + 1 > lim
        · rw [decide_eq_true hc]; rfl
        · rw [decide_eq_false hc]
          simp only [cond_false]
          exact ih.2 (by omega)
theorem cut_aft (l : List Chg) (frm to : Int) : cut (aft l frm) frm to = cut l frm to := by
  unfold cut aft
  rw [List.filter_filter]
  refine List.filter_congr fun x _ => ?_
  cases decide (x.time > frm) <;> simp
theorem aft_len (l : List Chg) (frm : Int) : (aft l frm).length ≤ l.length := List.length_filter_le _ _
/-- A question within the wave. -/
structure Ask (w : Wv) (sig frm to : Int) : Prop where
  hsig : 0 ≤ sig ∧ sig < (w.sig.length : Int)
  hkind : (sigOf w sig).kind ≠ 3
  hfrm : 0 ≤ frm
  hle : frm ≤ to
  hto : to ≤ w.fin
theorem SmOk.at {w : Wv} (h : SmOk w) {sig : Int} (hs : 0 ≤ sig ∧ sig < (w.sig.length : Int)) : (sigOf w sig).chg.length ≤ 20 ∧ (sigOf w sig).width ≤ 64 ∧ Inc (-1) (sigOf w sig).chg := by
  have : sig.toNat < w.sig.length := by omega
  refine h.sig _ ?_
  unfold sigOf
  rw [List.getD_eq_getElem?_getD, List.getElem?_eq_getElem this]
  exact List.getElem_mem this
/-- How many calls of the source Of makes. -/
def ofN (w : Wv) (sig frm to : Int) : Int := (cut (sigOf w sig).chg frm to).length + 3
theorem ofR_ask {w : Wv} (hw : SmOk w) {sig frm to lim : Int} (a : Ask w sig frm to) :
    ((lim < 0 ∨ ofN w sig frm to ≤ lim) → ofR w lim 0 sig frm to = (codeL (sigAt (sigOf w sig) frm) (cut (sigOf w sig).chg frm to) frm to, 0, ofN w sig frm to)) ∧
    (¬ (lim < 0 ∨ ofN w sig frm to ≤ lim) → (ofR w lim 0 sig frm to).1 = [] ∧ (ofR w lim 0 sig frm to).2.1 = 14) := by
  obtain ⟨hs, hk, h0, h1, h2⟩ := a
  obtain ⟨q1, _, q3⟩ := hw.at hs
  have e1 : addI .i64 0 1 = 1 := rfl
  have e2 : addI .i64 1 1 = 2 := rfl
  unfold ofR
  rw [if_neg (by omega), callR_ok hs, e1, callR_ok hs, e2, over_eq (by omega) (by omega), over_eq (by omega) (by omega), if_neg hk]
  obtain ⟨_, _, _, e3⟩ := q3.aft frm
  have hl := aft_len (sigOf w sig).chg frm
  have ih := itR_plain to lim (aft (sigOf w sig).chg frm) frm 2 [⟨frm, 0, sigAt (sigOf w sig) frm⟩] e3 (by omega) (by omega)
  rw [cut_aft] at ih
  unfold ofN
  refine ⟨fun h => ?_, fun h => ?_⟩
  · rw [decide_eq_false (by omega), decide_eq_false (by omega)]
    simp only [cond_false, ne_eq, not_true_eq_false, if_false]
    rw [ih.1 (by omega)]
    simp only [not_true_eq_false, if_false]
    unfold codeL
    congr 2
    omega
  · by_cases g1 : lim ≥ 0 ∧ 0 + 1 > lim
    · rw [decide_eq_true g1]
      exact ⟨rfl, rfl⟩
    rw [decide_eq_false g1]
    simp only [cond_false, ne_eq, not_true_eq_false, if_false]
    by_cases g2 : lim ≥ 0 ∧ 1 + 1 > lim
    · rw [decide_eq_true g2]
      exact ⟨rfl, rfl⟩
    rw [decide_eq_false g2]
    simp only [cond_false, not_true_eq_false, if_false]
    have := ih.2 (by omega)
    rw [if_pos (by rw [this]; decide)]
    exact ⟨rfl, this⟩
theorem srt_inc : ∀ {l : List Chg} {t : Int} {p : Option Chg}, Inc t l → (match p with | none => True | some y => y.time ≤ t) → srt p l = true
  | [], _, _, _, _ => rfl
  | x :: r, t, p, ⟨h1, h2⟩, hp => by
    simp only [srt, Bool.and_eq_true]
    refine ⟨?_, srt_inc (p := some x) h2 (Int.le_refl _)⟩
    cases p with
    | none => rfl
    | some y => simp only at hp; simp; omega
theorem ofR_rOf {w : Wv} (hw : SmOk w) {sig frm to : Int} : (ofR w (-1) 0 sig frm to).1 = (rOf w sig frm to).1 ∧ (ofR w (-1) 0 sig frm to).2.1 = (rOf w sig frm to).2 := by
  unfold rOf
  by_cases hr : frm ≥ 0 ∧ frm ≤ to ∧ to ≤ w.fin
  · rw [if_pos hr]
    by_cases hs : 0 ≤ sig ∧ sig < (w.sig.length : Int)
    · rw [if_pos hs]
      by_cases hk : (sigOf w sig).kind = 3
      · rw [if_pos hk]
        unfold ofR
        rw [if_neg (by omega), callR_ok hs, over_eq (by omega) (by omega), decide_eq_false (by omega)]
        simp only [cond_false, ne_eq, not_true_eq_false, if_false]
        rw [if_pos hk]
        exact ⟨rfl, rfl⟩
      · rw [if_neg hk]
        have ha := (ofR_ask hw (lim := -1) ⟨hs, hk, hr.1, hr.2.1, hr.2.2⟩).1 (.inl (by omega))
        rw [ha]
        obtain ⟨q1, _, q3⟩ := hw.at hs
        unfold rfcR
        rw [if_pos ⟨hr.1, hr.2.1, by have := hw.fin.2; omega⟩, if_pos (srt_inc q3 trivial)]
        refine ⟨?_, rfl⟩
        simp only
        rw [refL_code q3 _ hr.2.1]
        unfold sigAt
        rw [if_neg hk]
    · rw [if_neg hs]
      unfold ofR
      have : callR w (-1) 0 sig = 2 := by
        unfold callR
        rw [show decide ((-1 : Int) ≥ 0) = false from rfl]
        simp only [cond_false]
        by_cases h1 : sig < 0
        · rw [decide_eq_true h1]; rfl
        · rw [decide_eq_false h1, decide_eq_true (show sig ≥ (w.sig.length : Int) by omega)]; rfl
      rw [if_neg (by omega), this]
      simp
  · rw [if_neg hr]
    unfold ofR
    rw [if_pos (by omega)]
    exact ⟨rfl, rfl⟩
theorem SmOk.of {w : Wv} (h : SmOk w) : ∀ q ∈ w.sig, q.chg.length ≤ 900 ∧ q.width ≤ 1000000 ∧ Inc (-1) q.chg := fun q hq => by
  obtain ⟨h1, h2, h3⟩ := h.sig q hq
  exact ⟨by omega, by omega, h3⟩
theorem F3 : OkF 3 Try.f3 := ⟨by kernel_rfl, by kernel_rfl, by kernel_rfl⟩
def lv3 : List (List Nat × List Nat) := []
noncomputable def nLOfs (w : Wv) (sig : Int) (frm : Int) (to : Int) : List Nat → Nat → Option Ans := scrAt [([1, 0, 0], 1, Ans.pure [w.d] (B (smB w))), ([1, 0, 1, 0, 0], 0, Ans.pure [] (B true)), ([1, 1, 0], 1, Ans.eff (D.bp 0 0) (hM w (-1) 0)), ([1, 1, 0], 6, Ans.eff (.tup [L (ofR w (-1) 0 sig frm to).fst 3 Sp.d, I (ofR w (-1) 0 sig frm to).snd.fst]) (hMn w (-1) (ofR w (-1) 0 sig frm to).snd.snd)), ([1, 1, 1, 0], 4, Ans.pure [w.d, I sig, I frm, I to] (.tup [L (rOf w sig frm to).fst 3 Sp.d, I (rOf w sig frm to).snd])), ([1, 1, 1, 1, 0], 6, Ans.pure [L (rOf w sig frm to).fst 3 Sp.d, L (rOf w sig frm to).fst 3 Sp.d] (B true)), ([1, 1, 1, 1, 0], 9, Ans.pure [] (B true))]
theorem nLOf (w : Wv) (sig frm to : Int) (K : D → Prop) : runS (En Try.f3) (fi Try.f3 K) (nLOfs w sig frm to) lv3 200 [.code []] ⟨argSlots 0 [w.d, I sig, I frm, I to], .empty⟩ =
  (PureW PP 9 [w.d] [w.d] (B (smB w)) ∧ bif !smB w then PureW PP 10 [] [] (B true) ∧ K (B true) else Does PP 12 [.agg [L w.sig 3 Sig.d, L w.gap 2 Iv.d, I w.fin]] Heap.empty (D.bp 0 0) (hM w (-1) 0) ∧ Does PP 11 [D.iface 32 (D.bp 0 0), I sig, I frm, I to] { box := upd (fun _ => none) 0 (some (Row.lit [L w.sig 3 Sig.d, L w.gap 2 Iv.d, I w.fin, I (-1), I 0])), nl := 1, hw := fun _ => none, nt := 0, vw := fun _ => none : Heap } (.tup [L (ofR w (-1) 0 sig frm to).fst 3 Sp.d, I (ofR w (-1) 0 sig frm to).snd.fst]) (hMn w (-1) (ofR w (-1) 0 sig frm to).snd.snd) ∧ PureW PP 13 [w.d, I sig, I frm, I to] [w.d, I sig, I frm, I to] (.tup [L (rOf w sig frm to).fst 3 Sp.d, I (rOf w sig frm to).snd]) ∧ (((ofR w (-1) 0 sig frm to).snd.fst == (rOf w sig frm to).snd) = true → PureW PP 14 [L (ofR w (-1) 0 sig frm to).fst 3 Sp.d, L (rOf w sig frm to).fst 3 Sp.d] [L (rOf w sig frm to).fst 3 Sp.d, L (rOf w sig frm to).fst 3 Sp.d] (B true)) ∧ ((bif (ofR w (-1) 0 sig frm to).snd.fst == (rOf w sig frm to).snd then true else false) = true → PureW PP 10 [] [] (B true)) ∧ K (B (bif bif (ofR w (-1) 0 sig frm to).snd.fst == (rOf w sig frm to).snd then true else false then true else false))) := by kernel_rfl
theorem c3 (w : Wv) (sig frm to : Int) : Pure PP 3 [w.d, I sig, I frm, I to] (B true) := by
  refine pu F3 (by kernel_rfl) (of_eq (nLOf w sig frm to _) ⟨PureW.mk (c9 _), cond_intro (fun _ => ⟨PureW.mk c10, Wk.refl _⟩) fun h => ?_⟩)
  have hw := smB_ok (w := w) (by simpa using h)
  obtain ⟨h1, h2⟩ := ofR_rOf hw (sig := sig) (frm := frm) (to := to)
  refine ⟨e12 w, e11 hw.of 0, PureW.mk (c13 w sig frm to fun q hq => ⟨(hw.sig q hq).1, (hw.sig q hq).2.1⟩), fun _ => ?_, fun _ => PureW.mk c10, ?_⟩
  · rw [h1]; exact PureW.mk (c14 _)
  · rw [h2]; simp only [beq_self_eq_true, cond_true]; exact Wk.refl _
end Go.Proofs.Ytjajmmdnplgjmaa.S1
/- Seat 2: the arguments read. -/
namespace Go.Proofs.Ytjajmmdnplgjmaa.S1
open Go Go.Ab Go.Proofs
open Go.ChangeShapes Go.WideShapes Go.ChangeAt Go.RowKit Go.Joins

abbrev any {α : Type} : α → Prop := fun _ => True
theorem rc {P : Program} {total : Nat} {f : Field} {fs : List Field} {off off' t : Nat} {α β : Type} {enc : α → D} {encF : β → List D} (h : Reads P t enc any) (k : ReadsF P total fs off' encF any) (ht : f.type = t) (ho : f.offset = off) (hs : off + P.cellsOf t = off') :
    ReadsF P total (f :: fs) off (fun x : α × β => cellsD (enc x.1) ++ encF x.2) any := by
  subst ht; subst hs
  have hc := ReadsF.cons h k ho
  exact ⟨hc.size, hc.ones, hc.data, fun a b => by obtain ⟨x, _, hr⟩ := hc.it a b; exact ⟨x, trivial, hr⟩⟩
theorem rn {P : Program} {total : Nat} : ReadsF P total [] total (fun _ : Unit => []) any := ReadsF.nil
theorem cI : Try.prog.cellsOf 3 = 1 := by kernel_rfl
theorem cStr : Try.prog.cellsOf 9 = 1 := by kernel_rfl
theorem cChg : Try.prog.cellsOf 43 = 2 := by kernel_rfl
theorem cChgs : Try.prog.cellsOf 37 = 1 := by kernel_rfl
theorem cSig : Try.prog.cellsOf 39 = 3 := by kernel_rfl
theorem cSigs : Try.prog.cellsOf 22 = 1 := by kernel_rfl
theorem cGap : Try.prog.cellsOf 71 = 2 := by kernel_rfl
theorem cGaps : Try.prog.cellsOf 23 = 1 := by kernel_rfl
theorem cWv : Try.prog.cellsOf 25 = 3 := by kernel_rfl
theorem cSp : Try.prog.cellsOf 56 = 3 := by kernel_rfl
theorem cSps : Try.prog.cellsOf 28 = 1 := by kernel_rfl
theorem rI : Reads Try.prog 3 (fun n : Int => I n) any := (Reads.int Try.underlying3 cI).map (fun n => n) (fun _ => rfl) (fun n => ⟨n, rfl⟩) fun _ _ => trivial
theorem rStr : Reads Try.prog 9 (fun s : Str => .str s) any := (Reads.str Try.underlying9 cStr).map (fun n => n) (fun _ => rfl) (fun n => ⟨n, rfl⟩) fun _ _ => trivial
theorem rsl {e t sz : Nat} {α : Type} [Inhabited α] {enc : α → D} (h : Reads Try.prog e enc any) (ht : Try.prog.underlying t = some (.slice e)) (hc : Try.prog.cellsOf t = 1) (hp : Try.prog.cellsOf e = sz) (h0 : 0 < sz) : Reads Try.prog t (fun es : List α => L es sz enc) any := by
  have h := Reads.slice h ht hc (by rw [hp]; exact h0)
  rw [hp] at h
  exact h.map (fun n => n) (fun _ => rfl) (fun n => ⟨n, rfl⟩) fun _ _ => trivial
theorem rChg : Reads Try.prog 43 Chg.d any := by
  refine (Reads.struct (ok := any) Try.underlying43 ?_).map (fun x : Int × Str × Unit => (⟨x.1, x.2.1⟩ : Chg)) (fun _ => rfl) (fun b => ⟨(b.time, b.val, ()), rfl⟩) fun _ _ => trivial
  rw [cChg]
  exact rc rI (rc rStr rn rfl rfl (by rw [cStr])) rfl rfl (by rw [cI])
theorem rSp : Reads Try.prog 56 Sp.d any := by
  refine (Reads.struct (ok := any) Try.underlying56 ?_).map (fun x : Int × Int × Str × Unit => (⟨x.1, x.2.1, x.2.2.1⟩ : Sp)) (fun _ => rfl) (fun b => ⟨(b.frm, b.to, b.val, ()), rfl⟩) fun _ _ => trivial
  rw [cSp]
  exact rc rI (rc rI (rc rStr rn rfl rfl (by rw [cStr])) rfl rfl (by rw [cI])) rfl rfl (by rw [cI])
theorem rGap : Reads Try.prog 71 Iv.d any := by
  refine (Reads.struct (ok := any) Try.underlying71 ?_).map (fun x : Int × Int × Unit => (⟨x.1, x.2.1⟩ : Iv)) (fun _ => rfl) (fun b => ⟨(b.frm, b.to, ()), rfl⟩) fun _ _ => trivial
  rw [cGap]
  exact rc rI (rc rI rn rfl rfl (by rw [cI])) rfl rfl (by rw [cI])
theorem rChgs : Reads Try.prog 37 (fun es : List Chg => L es 2 Chg.d) any := rsl rChg Try.underlying37 cChgs cChg (by decide)
theorem rSps : Reads Try.prog 28 (fun es : List Sp => L es 3 Sp.d) any := rsl rSp Try.underlying28 cSps cSp (by decide)
theorem rGaps : Reads Try.prog 23 (fun es : List Iv => L es 2 Iv.d) any := rsl rGap Try.underlying23 cGaps cGap (by decide)
theorem rSig : Reads Try.prog 39 Sig.d any := by
  refine (Reads.struct (ok := any) Try.underlying39 ?_).map (fun x : Int × Int × List Chg × Unit => (⟨x.1, x.2.1, x.2.2.1⟩ : Sig)) (fun _ => rfl) (fun b => ⟨(b.kind, b.width, b.chg, ()), rfl⟩) fun _ _ => trivial
  rw [cSig]
  exact rc rI (rc rI (rc rChgs rn rfl rfl (by rw [cChgs])) rfl rfl (by rw [cI])) rfl rfl (by rw [cI])
theorem rSigs : Reads Try.prog 22 (fun es : List Sig => L es 3 Sig.d) any := rsl rSig Try.underlying22 cSigs cSig (by decide)
theorem rWv : Reads Try.prog 25 Wv.d any := by
  refine (Reads.struct (ok := any) Try.underlying25 ?_).map (fun x : List Sig × List Iv × Int × Unit => (⟨x.1, x.2.1, x.2.2.1⟩ : Wv)) (fun _ => rfl) (fun b => ⟨(b.sig, b.gap, b.fin, ()), rfl⟩) fun _ _ => trivial
  rw [cWv]
  exact rc rSigs (rc rGaps (rc rI rn rfl rfl (by rw [cI])) rfl rfl (by rw [cGaps])) rfl rfl (by rw [cSigs])
theorem own : ownKnob Try.prog.godebug = none := by kernel_rfl
theorem laid : laidOutB Try.prog = true := by kernel_rfl
theorem trod_cons {P : Program} {H : Type} {en : TypeId × Value → H} {W : World} {b : Nat} {sp : Nat → Bool} {hd : Bool} {t : TypeId} {ts : List TypeId} {vs : List Value} {ds : List (DataW H)} {ps : List MemPlace} (h : DataW.TrodAll en P W b sp hd (t :: ts) vs ds ps) :
    ∃ v r d e p q, vs = v :: r ∧ ds = d :: e ∧ DataW.Trod en P W b sp hd t v d p ∧ DataW.TrodAll en P W b sp hd ts r e q := by
  cases vs with
  | nil => simp [DataW.TrodAll] at h
  | cons v r => cases ds with
    | nil => simp [DataW.TrodAll] at h
    | cons d e =>
      obtain ⟨p, q, h1, h2, _⟩ := h
      exact ⟨v, r, d, e, p, q, rfl, rfl, h1, h2⟩
theorem trod_nil {P : Program} {H : Type} {en : TypeId × Value → H} {W : World} {b : Nat} {sp : Nat → Bool} {hd : Bool} {vs : List Value} {ds : List (DataW H)} {ps : List MemPlace} (h : DataW.TrodAll en P W b sp hd [] vs ds ps) : vs = [] ∧ ds = [] := by
  cases vs with
  | nil => cases ds with
    | nil => exact ⟨rfl, rfl⟩
    | cons d e => simp [DataW.TrodAll] at h
  | cons v r => simp [DataW.TrodAll] at h
end Go.Proofs.Ytjajmmdnplgjmaa.S1
/- Seat 2: the law on Of's errors and calls. -/
namespace Go.Proofs.Ytjajmmdnplgjmaa.S1
open Go Go.Ab Go.Proofs
def lvRA : List (List Nat × List Nat) := [([1, 1, 0], [1, 2, 3, 4, 5])]
def lvRB : List (List Nat × List Nat) := [([1, 1, 1, 1, 1, 1, 0, 1, 0], [1, 2, 3, 4, 5, 12, 13, 14, 15, 79, 80, 81])]
def lvRC : List (List Nat × List Nat) := [([1, 1, 1, 1, 1, 1, 1, 1, 0], [1, 2, 3, 4, 5, 12, 14])]
theorem F4 : OkF 4 Try.f4 := ⟨by kernel_rfl, by kernel_rfl, by kernel_rfl⟩
def lv4 : List (List Nat × List Nat) := [([1, 1, 1, 1, 1, 1, 0, 1, 0], [1, 2, 3, 4, 5, 12, 13, 14, 15, 79, 80, 81])]
noncomputable def nRRas (w : Wv) : List Nat → Nat → Option Ans := scrAt [([1, 0, 0], 1, Ans.pure [w.d] (B (smB w))), ([1, 0, 1, 0, 0], 0, Ans.pure [] (B true))]
theorem nRRa (w : Wv) (sig frm to k : Int) (K : D → Prop) : runS (En Try.f4) (fi Try.f4 K) (nRRas w) lvRA 200 [.code []] ⟨argSlots 0 [w.d, I sig, I frm, I to, .int .u8 k], .empty⟩ =
  (PureW PP 9 [w.d] [w.d] (B (smB w)) ∧ (((!bif !smB w then true else decide (sig < 0)) = true → w.sig.length ≤ lenM) → ((!bif bif bif bif bif !smB w then true else decide (sig < 0) then true else decide (sig ≥ (↑w.sig.length : Int)) then true else decide (frm < 0) then true else decide (frm > to) then true else decide (to > w.fin)) = true → 0 ≤ sig ∧ sig < (↑w.sig.length : Int)) ∧ bif bif bif bif bif bif bif !smB w then true else decide (sig < 0) then true else decide (sig ≥ (↑w.sig.length : Int)) then true else decide (frm < 0) then true else decide (frm > to) then true else decide (to > w.fin) then true else (w.sig.getD sig.toNat default).kind == 3 then PureW PP 10 [] [] (B true) ∧ K (B true) else At (En Try.f4) (fi Try.f4 K) [It.code [1, 1, 0], It.code [1, 1, 1]] { sl := [(1, I sig), (2, I frm), (3, I to), (4, D.int IntKind.u8 k), (5, .own [L w.sig 3 Sig.d, L w.gap 2 Iv.d, I w.fin])], h := Heap.empty : St })) := by kernel_rfl
noncomputable def nRRbs (w : Wv) (sig : Int) (frm : Int) (to : Int) : List Nat → Nat → Option Ans := scrAt [([1, 1, 0], 1, Ans.eff (D.bp 0 0) (hM w (-1) 0)), ([1, 1, 1, 0], 5, Ans.eff (.tup [L (ofR w (-1) 0 sig frm to).fst 3 Sp.d, I (ofR w (-1) 0 sig frm to).snd.fst]) (hMn w (-1) (ofR w (-1) 0 sig frm to).snd.snd))]
theorem nRRb (w : Wv) (sig frm to k : Int) (K : D → Prop) : runS (En Try.f4) (fi Try.f4 K) (nRRbs w sig frm to) lvRB 200 [.code [1, 1, 0], .code [1, 1, 1]] ⟨[(1, I sig), (2, I frm), (3, I to), (4, .int .u8 k), (5, .own [L w.sig 3 Sig.d, L w.gap 2 Iv.d, I w.fin])], .empty⟩ =
  (Does PP 12 [.agg [L w.sig 3 Sig.d, L w.gap 2 Iv.d, I w.fin]] Heap.empty (D.bp 0 0) (hM w (-1) 0) ∧ Does PP 11 [D.iface 32 (D.bp 0 0), I sig, I frm, I to] { box := upd (fun _ => none) 0 (some (Row.lit [L w.sig 3 Sig.d, L w.gap 2 Iv.d, I w.fin, I (-1), I 0])), nl := 1, hw := fun _ => none, nt := 0, vw := fun _ => none : Heap } (.tup [L (ofR w (-1) 0 sig frm to).fst 3 Sp.d, I (ofR w (-1) 0 sig frm to).snd.fst]) (hMn w (-1) (ofR w (-1) 0 sig frm to).snd.snd) ∧ (0 ≤ sig ∧ sig < (↑w.sig.length : Int)) ∧ ((w.sig.getD sig.toNat default).chg.length ≤ lenM → At (En Try.f4) (fi Try.f4 K) [It.code [1, 1, 1, 1, 1, 1, 0, 1, 0], It.blk 0, It.code [1, 1, 1, 1, 1, 1, 1]] { sl := [(1, I sig), (2, I frm), (3, I to), (4, D.int IntKind.u8 k), (5, .own [L w.sig 3 Sig.d, L w.gap 2 Iv.d, I w.fin]), (12, L (ofR w (-1) 0 sig frm to).fst 3 Sp.d), (13, I (ofR w (-1) 0 sig frm to).snd.fst), (14, I (ofR w (-1) 0 sig frm to).snd.snd), (15, I 0), (79, L (w.sig.getD sig.toNat default).chg 2 Chg.d), (80, I (↑(w.sig.getD sig.toNat default).chg.length : Int)), (81, I 0)], h := { box := upd (fun _ => none) 0 (some (Row.lit [L w.sig 3 Sig.d, L w.gap 2 Iv.d, I w.fin, I (-1), I (ofR w (-1) 0 sig frm to).snd.snd])), nl := 4, hw := fun _ => none, nt := 1, vw := fun _ => none : Heap } : St })) := by kernel_rfl
def hR : Heap := ⟨fun _ => none, 4, fun _ => none, 1, fun _ => none⟩
def SRR (w : Wv) (sig frm to k : Int) (out : List Sp) (e n c : Int) (ls : List Chg) (i : Int) : St := ⟨[(1, I sig), (2, I frm), (3, I to), (4, .int .u8 k), (5, .own [L w.sig 3 Sig.d, L w.gap 2 Iv.d, I w.fin]), (12, L out 3 Sp.d), (13, I e), (14, I n), (15, I c), (79, L ls 2 Chg.d), (80, I ls.length), (81, I i)], hR⟩
noncomputable def nRRcs  : List Nat → Nat → Option Ans := scrAt []
theorem nRRc (w : Wv) (sig frm to k : Int) (out : List Sp) (e n c : Int) (ls : List Chg) (i : Int) (J : St → Prop) (K : D → Prop) : runS (En Try.f4) (fi Try.f4 K) (nRRcs ) lvRC 200 [.code [1, 1, 1, 1, 1, 1, 0, 1, 0, 0], stp [1, 2, 3, 4, 5, 12, 13, 14, 15, 79, 80, 81] J, .blk 0, .code [1, 1, 1, 1, 1, 1, 1]] (SRR w sig frm to k out e n c ls i) =
  (bif decide (i < (↑ls.length : Int)) then (0 ≤ i ∧ i < (↑ls.length : Int)) ∧ True ∧ bif bif decide ((ls.getD i.toNat default).time > frm) then decide ((ls.getD i.toNat default).time ≤ to) else false then J { sl := [(1, I sig), (2, I frm), (3, I to), (4, D.int IntKind.u8 k), (5, .own [L w.sig 3 Sig.d, L w.gap 2 Iv.d, I w.fin]), (12, L out 3 Sp.d), (13, I e), (14, I n), (15, I (addI .i64 c 1)), (79, L ls 2 Chg.d), (80, I (↑ls.length : Int)), (81, I (addI .i64 i 1))], h := { box := fun _ => none, nl := 4, hw := fun _ => none, nt := 1, vw := fun _ => none : Heap } : St } else J { sl := [(1, I sig), (2, I frm), (3, I to), (4, D.int IntKind.u8 k), (5, .own [L w.sig 3 Sig.d, L w.gap 2 Iv.d, I w.fin]), (12, L out 3 Sp.d), (13, I e), (14, I n), (15, I c), (79, L ls 2 Chg.d), (80, I (↑ls.length : Int)), (81, I (addI .i64 i 1))], h := { box := fun _ => none, nl := 4, hw := fun _ => none, nt := 1, vw := fun _ => none : Heap } : St } else bif bif e != 0 then true else decide (n > addI .i64 c 3) then K (B false) else At (En Try.f4) (fi Try.f4 K) [It.code [1, 1, 1, 1, 1, 1, 1, 1, 0], It.code [1, 1, 1, 1, 1, 1, 1, 1, 1]] { sl := [(1, I sig), (2, I frm), (3, I to), (4, D.int IntKind.u8 k), (5, .own [L w.sig 3 Sig.d, L w.gap 2 Iv.d, I w.fin]), (12, L out 3 Sp.d), (14, I n)], h := { box := fun _ => none, nl := 4, hw := fun _ => none, nt := 1, vw := fun _ => none : Heap } : St }) := by kernel_rfl
noncomputable def nRRds (w : Wv) (sig : Int) (frm : Int) (to : Int) (k : Int) (out : List Sp) : List Nat → Nat → Option Ans := scrAt [([1, 1, 1, 1, 1, 1, 1, 1, 0], 1, Ans.eff (ren (rnm [] 4) (rnm [] 1) (D.bp 0 0)) (frameH [] [] { box := fun _ => none, nl := 4, hw := fun _ => none, nt := 1, vw := fun _ => none : Heap } (hM w (-1) 0))), ([1, 1, 1, 1, 1, 1, 1, 1, 1, 1, 0], 5, Ans.eff (ren (rnm [4] 5) (rnm [] 1) (.tup [L (ofR w (IntKind.i64.wrap (k.tmod 32)) 0 sig frm to).fst 3 Sp.d, I (ofR w (IntKind.i64.wrap (k.tmod 32)) 0 sig frm to).snd.fst])) (frameH [4] [] { box := upd (upd (fun _ => none) 4 (some (Row.lit [L w.sig 3 Sig.d, L w.gap 2 Iv.d, I w.fin, I (-1), I 0]))) 4 (some (Row.lit [L w.sig 3 Sig.d, L w.gap 2 Iv.d, I w.fin, I (IntKind.i64.wrap (k.tmod 32)), I 0])), nl := 5, hw := fun _ => none, nt := 1, vw := fun _ => none : Heap } (hMn w (IntKind.i64.wrap (k.tmod 32)) (ofR w (IntKind.i64.wrap (k.tmod 32)) 0 sig frm to).snd.snd))), ([1, 1, 1, 1, 1, 1, 1, 1, 1, 1, 1, 0, 1, 0, 0], 5, Ans.pure [L out 3 Sp.d, L out 3 Sp.d] (B true)), ([1, 1, 1, 1, 1, 1, 1, 1, 1, 1, 1, 0, 1, 0, 0], 8, Ans.pure [] (B true)), ([1, 1, 1, 1, 1, 1, 1, 1, 1, 1, 1, 1, 0], 8, Ans.pure [] (B true))]
theorem nRRd (w : Wv) (sig frm to k : Int) (out : List Sp) (n : Int) (K : D → Prop) : runS (En Try.f4) (fi Try.f4 K) (nRRds w sig frm to k out) nolv 200 [.code [1, 1, 1, 1, 1, 1, 1, 1, 0], .code [1, 1, 1, 1, 1, 1, 1, 1, 1]] ⟨[(1, I sig), (2, I frm), (3, I to), (4, .int .u8 k), (5, .own [L w.sig 3 Sig.d, L w.gap 2 Iv.d, I w.fin]), (12, L out 3 Sp.d), (14, I n)], hR⟩ =
  (Does PP 12 [.agg [L w.sig 3 Sig.d, L w.gap 2 Iv.d, I w.fin]] { box := fun _ => none, nl := 4, hw := fun _ => none, nt := 1, vw := fun _ => none : Heap } (ren (rnm [] 4) (rnm [] 1) (D.bp 0 0)) (frameH [] [] { box := fun _ => none, nl := 4, hw := fun _ => none, nt := 1, vw := fun _ => none : Heap } (hM w (-1) 0)) ∧
  (32 : Int) ≠ 0 ∧
    True ∧
      Does PP 11 [D.iface 32 (D.bp 4 0), I sig, I frm, I to] { box := upd (upd (fun _ => none) 4 (some (Row.lit [L w.sig 3 Sig.d, L w.gap 2 Iv.d, I w.fin, I (-1), I 0]))) 4 (some (Row.lit [L w.sig 3 Sig.d, L w.gap 2 Iv.d, I w.fin, I (IntKind.i64.wrap (k.tmod 32)), I 0])), nl := 5, hw := fun _ => none, nt := 1, vw := fun _ => none : Heap } (ren (rnm [4] 5) (rnm [] 1) (.tup [L (ofR w (IntKind.i64.wrap (k.tmod 32)) 0 sig frm to).fst 3 Sp.d, I (ofR w (IntKind.i64.wrap (k.tmod 32)) 0 sig frm to).snd.fst])) (frameH [4] [] { box := upd (upd (fun _ => none) 4 (some (Row.lit [L w.sig 3 Sig.d, L w.gap 2 Iv.d, I w.fin, I (-1), I 0]))) 4 (some (Row.lit [L w.sig 3 Sig.d, L w.gap 2 Iv.d, I w.fin, I (IntKind.i64.wrap (k.tmod 32)), I 0])), nl := 5, hw := fun _ => none, nt := 1, vw := fun _ => none : Heap } (hMn w (IntKind.i64.wrap (k.tmod 32)) (ofR w (IntKind.i64.wrap (k.tmod 32)) 0 sig frm to).snd.snd)) ∧
        bif decide (IntKind.i64.wrap (k.tmod 32) ≥ n) then (((ofR w (IntKind.i64.wrap (k.tmod 32)) 0 sig frm to).snd.fst == 0) = true → PureW PP 14 [L (ofR w (IntKind.i64.wrap (k.tmod 32)) 0 sig frm to).fst 3 Sp.d, L out 3 Sp.d] [L out 3 Sp.d, L out 3 Sp.d] (B true)) ∧ ((bif (ofR w (IntKind.i64.wrap (k.tmod 32)) 0 sig frm to).snd.fst == 0 then true else false) = true → PureW PP 10 [] [] (B true)) ∧ K (B (bif bif (ofR w (IntKind.i64.wrap (k.tmod 32)) 0 sig frm to).snd.fst == 0 then true else false then true else false)) else (((ofR w (IntKind.i64.wrap (k.tmod 32)) 0 sig frm to).snd.fst == 14) = true → (ofR w (IntKind.i64.wrap (k.tmod 32)) 0 sig frm to).fst.length ≤ lenM) → ((bif (ofR w (IntKind.i64.wrap (k.tmod 32)) 0 sig frm to).snd.fst == 14 then (↑(ofR w (IntKind.i64.wrap (k.tmod 32)) 0 sig frm to).fst.length : Int) == 0 else false) = true → PureW PP 10 [] [] (B true)) ∧ K (B (bif bif (ofR w (IntKind.i64.wrap (k.tmod 32)) 0 sig frm to).snd.fst == 14 then (↑(ofR w (IntKind.i64.wrap (k.tmod 32)) 0 sig frm to).fst.length : Int) == 0 else false then true else false))) := by kernel_rfl
/-- The guards. -/
theorem ask_of {w : Wv} {sig frm to : Int} (h : (bif bif bif bif bif bif !smB w then true else decide (sig < 0) then true else decide (sig ≥ (w.sig.length : Int)) then true else decide (frm < 0) then true else decide (frm > to) then true else decide (to > w.fin) then true else (w.sig.getD sig.toNat default).kind == 3) = false) : SmOk w ∧ Ask w sig frm to := by
  simp only [Bool.cond_true_left, Bool.or_eq_false_iff, decide_eq_false_iff_not, Bool.not_eq_false', beq_eq_false_iff_ne] at h
  obtain ⟨⟨⟨⟨⟨⟨h1, h2⟩, h3⟩, h4⟩, h5⟩, h6⟩, h7⟩ := h
  exact ⟨smB_ok h1, ⟨by omega, by omega⟩, h7, by omega, by omega, by omega⟩
theorem ask_in {w : Wv} {sig frm to : Int} (h : (!bif bif bif bif bif !smB w then true else decide (sig < 0) then true else decide (sig ≥ (w.sig.length : Int)) then true else decide (frm < 0) then true else decide (frm > to) then true else decide (to > w.fin)) = true) : 0 ≤ sig ∧ sig < (w.sig.length : Int) := by
  simp only [Bool.cond_true_left, Bool.not_eq_true', Bool.or_eq_false_iff, decide_eq_false_iff_not, Bool.not_eq_false'] at h
  obtain ⟨⟨⟨⟨⟨h1, h2⟩, h3⟩, h4⟩, h5⟩, h6⟩ := h
  omega
theorem ask_len {w : Wv} {sig : Int} (h : (!bif !smB w then true else decide (sig < 0)) = true) : w.sig.length ≤ lenM := by
  simp only [Bool.cond_true_left, Bool.not_eq_true', Bool.or_eq_false_iff, decide_eq_false_iff_not, Bool.not_eq_false'] at h
  have := (smB_ok h.1).len
  unfold lenM; omega
theorem c4 (w : Wv) (sig frm to k : Int) (hk : 0 ≤ k) : Pure PP 4 [w.d, I sig, I frm, I to, .int .u8 k] (B true) := by
  refine pu F4 (by kernel_rfl) (of_eq (nRRa w sig frm to k _) ⟨PureW.mk (c9 _), fun _ => ⟨ask_in, cond_intro (fun _ => ⟨PureW.mk c10, Wk.refl _⟩) fun h => ?_⟩⟩)
  obtain ⟨hw, ha⟩ := ask_of h
  obtain ⟨q1, _, q3⟩ := hw.at ha.hsig
  obtain ⟨hO, _⟩ := ofR_ask hw (lim := -1) ha
  have hO := hO (.inl (by omega))
  refine runS_sound hmix _ _ _ (of_eq (nRRb w sig frm to k _) ⟨e12 w, e11 hw.of 0, ha.hsig, fun hl => ?_⟩)
  rw [hO]
  simp only
  generalize hout : codeL (sigAt (sigOf w sig) frm) (cut (sigOf w sig).chg frm to) frm to = out at hO
  generalize hn : ofN w sig frm to = n at hO
  have hn' : n = (cut (sigOf w sig).chg frm to).length + 3 := hn.symm
  have hls : (w.sig.getD sig.toNat default).chg = (sigOf w sig).chg := rfl
  rw [hls] at hl ⊢
  have hcl : (cut (sigOf w sig).chg frm to).length ≤ (sigOf w sig).chg.length := List.length_filter_le _ _
  generalize hce : (sigOf w sig).chg = ls at hl q1 q3 hcl hn' ⊢
  refine at_le (st' := SRR w sig frm to k out 0 n (0 : Nat) ls (0 : Nat)) ?_ (StLe.heapLe ?_)
  rotate_left
  · exact ⟨fun l row' e => (by cases e), Nat.le_refl _, fun t n e => (by cases e), Nat.le_refl _, fun t n e => (by cases e), fun _ h => h⟩
  refine lp (fn := Try.f4) (fun z : Nat × Nat => z.1 ≤ ls.length ∧ z.2 ≤ z.1 ∧ (cut ls frm to).length = z.2 + (cut (ls.drop z.1) frm to).length) (fun z => SRR w sig frm to k out 0 n z.2 ls z.1) (fun z => ls.length - z.1) [1, 2, 3, 4, 5, 12, 13, 14, 15, 79, 80, 81] (by kernel_rfl) (fun z hz => of_eq (nRRc w sig frm to k out 0 n z.2 ls z.1 _ _) ?_) (0, 0) ⟨Nat.zero_le _, Nat.le_refl _, by simp⟩
  obtain ⟨i, c⟩ := z
  obtain ⟨hi, hc0, hc⟩ := hz
  simp only at hi hc0 hc ⊢
  refine cond_intro (fun hlt => ?_) fun hge => ?_
  · have hlt := ltI hlt
    rw [add1 hlt hl, Int.toNat_natCast]
    rw [drop_cons _ _ hlt] at hc
    unfold cut at hc
    rw [List.filter_cons] at hc
    have hb : (bif decide ((ls.getD i default).time > frm) then decide ((ls.getD i default).time ≤ to) else false) = (decide ((ls.getD i default).time > frm) && decide ((ls.getD i default).time ≤ to)) := by
      cases decide ((ls.getD i default).time > frm) <;> rfl
    rw [hb]
    refine ⟨⟨by omega, by omega⟩, trivial, cond_intro (fun h => ?_) fun h => ?_⟩
    · rw [if_pos h] at hc
      have : addI .i64 (c : Int) 1 = ((c + 1 : Nat) : Int) := by rw [add64 (by omega) (by omega)]; rfl
      rw [this]
      exact Nx.mk (i + 1, c + 1) ⟨hlt, by simp only; omega, by rw [List.length_cons] at hc; unfold cut; simp only; omega⟩ (by simp only; omega)
    · rw [if_neg (by rw [h]; simp)] at hc
      exact Nx.mk (i + 1, c) ⟨hlt, by simp only; omega, by unfold cut; exact hc⟩ (by simp only; omega)
  · rw [List.drop_of_length_le (geI hge)] at hc
    have hc' : (cut ls frm to).length = c := by rw [hc]; simp [cut]
    have ha3 : addI .i64 (c : Int) 3 = (c : Int) + 3 := add64 (by omega) (by omega)
    rw [ha3, decide_eq_false (show ¬ n > (c : Int) + 3 by omega)]
    simp only [bne_self_eq_false, cond_false]
    have hkm : IntKind.wrap .i64 (k.tmod 32) = k.tmod 32 := IntWalk.i64_in _ ⟨by have := Int.tmod_lt_of_pos k (show (0 : Int) < 32 by omega); have := Int.tmod_nonneg 32 hk; omega, by have := Int.tmod_lt_of_pos k (show (0 : Int) < 32 by omega); omega⟩
    have hk0 : 0 ≤ k.tmod 32 := Int.tmod_nonneg 32 hk
    refine runS_sound hmix _ _ _ (of_eq (nRRd w sig frm to k out n _) ⟨fr (e12 w) [] [], by decide, trivial, fr (e11 hw.of 0) [4] [], ?_⟩)
    rw [hkm]
    generalize k.tmod 32 = lim at hk0
    obtain ⟨h1, h2⟩ := ofR_ask hw (lim := lim) ha
    rw [hn, hout] at h1
    rw [hn] at h2
    refine cond_intro (fun h => ?_) fun h => ?_
    · have h : lim ≥ n := of_decide_eq_true h
      rw [h1 (.inr h)]
      exact ⟨fun _ => PureW.mk (c14 _), fun _ => PureW.mk c10, Wk.refl _⟩
    · have h : ¬ lim ≥ n := of_decide_eq_false h
      obtain ⟨g1, g2⟩ := h2 (by omega)
      rw [g1, g2]
      exact fun _ => ⟨fun _ => PureW.mk c10, Wk.refl _⟩
end Go.Proofs.Ytjajmmdnplgjmaa.S1
/- Seat 2: plain laws of valid lists of spans. -/
namespace Go.Proofs.Ytjajmmdnplgjmaa.S1
open Go Go.Ab Go.Proofs
/-- A list that begins at f, behind the value p. -/
def Vl : Int → Option Str → List Sp → Prop
  | _, _, [] => True
  | f, p, x :: r => x.frm = f ∧ 0 ≤ f ∧ f ≤ x.to ∧ x.to ≤ 1099511627776 ∧ p ≠ some x.val ∧ Vl (x.to + 1) (some x.val) r
/-- The value at a time. -/
def atL : List Sp → Int → Str
  | [], _ => []
  | x :: r, t => if t ≤ x.to then x.val else atL r t
theorem Vl.chk : ∀ {l : List Sp} {p : Option Sp} {f : Int}, (match p with | none => True | some y => f = y.to + 1) → Vl f (p.map Sp.val) l → S1.chk p l = true
  | [], _, _, _, _ => rfl
  | x :: r, p, f, hp, ⟨h1, h2, h3, h4, h5, h6⟩ => by
    simp only [S1.chk, Bool.and_eq_true]
    refine ⟨?_, Vl.chk (p := some x) rfl h6⟩
    unfold okN
    cases p with
    | none => rw [decide_eq_false (by omega)]; rfl
    | some y =>
      simp only at hp
      rw [decide_eq_false (by omega)]
      simp only
      rw [add64 (a := y.to) (b := 1) (by omega) (by omega)]
      have : (x.val == y.val) = false := by
        rw [beq_eq_false_iff_ne]
        intro e2
        exact h5 (by rw [e2]; rfl)
      rw [this, show (x.frm != y.to + 1) = false by rw [h1, hp]; simp]
      rfl
theorem lastSp_cons (x y : Sp) (r : List Sp) : lastSp (x :: y :: r) = lastSp (y :: r) := by
  unfold lastSp
  simp [List.getD]
theorem Vl.last : ∀ {l : List Sp} {f : Int} {p : Option Str}, Vl f p l → l ≠ [] → f ≤ (lastSp l).to ∧ (lastSp l).to ≤ 1099511627776
  | [x], _, _, ⟨_, _, h3, h4, _⟩, _ => ⟨h3, h4⟩
  | x :: y :: r, f, _, ⟨_, _, h3, _, _, h6⟩, _ => by
    have := Vl.last h6 (by simp)
    rw [lastSp_cons]; omega
theorem Vl.valid {l : List Sp} {f : Int} (h : Vl f none l) (hne : l ≠ []) : validL l = true := by
  have hl := h.last hne
  have hc : S1.chk none l = true := Vl.chk (p := none) trivial h
  cases l with
  | nil => exact absurd rfl hne
  | cons x r =>
    obtain ⟨h1, h2, _⟩ := h
    unfold validL
    rw [hc, show (((x :: r).length : Int) == 0) = false by simp; omega, decide_eq_false (show ¬ ((x :: r).getD 0 default).frm < 0 by simp; omega), decide_eq_false (show ¬ (lastSp (x :: r)).to > 1099511627776 by omega)]
    rfl
/-- The code's list by the changes. -/
def seg (to : Int) : Int → Str → List Chg → List Sp
  | f, v, [] => [⟨f, to, v⟩]
  | f, v, x :: r => if v = x.val then seg to f v r else ⟨f, x.time - 1, v⟩ :: seg to x.time x.val r
theorem seg_fold (to : Int) : ∀ (l : List Chg) (a : List Sp) (f e : Int) (v : Str), 0 ≤ f → Inc f l → (∀ x ∈ l, x.time ≤ 1099511627776) → lastTo (l.foldl (fun o x => addS o x.time x.val) (a ++ [⟨f, e, v⟩])) to = a ++ seg to f v l
  | [], a, f, e, v, _, _, _ => by
    simp only [List.foldl_nil, seg]
    rw [lastTo_snoc]
  | x :: r, a, f, e, v, h0, ⟨h1, h2⟩, hb => by
    have hb' : ∀ y ∈ r, y.time ≤ 1099511627776 := fun y hy => hb y (List.mem_cons_of_mem _ hy)
    have hx := hb x (List.mem_cons_self ..)
    rw [List.foldl_cons, addS_snoc]
    simp only [seg]
    by_cases hv : v = x.val
    · rw [if_pos hv, if_pos hv]
      exact seg_fold to r a f e v h0 (h2.mono (by omega)) hb'
    · rw [if_neg hv, if_neg hv, sub64 (by omega) (by omega)]
      have := seg_fold to r (a ++ [⟨f, x.time - 1, v⟩]) x.time 0 x.val (by omega) h2 hb'
      rw [this]
      simp only [List.append_assoc, List.singleton_append]
theorem codeL_seg {v : Str} {l : List Chg} {f to : Int} (h0 : 0 ≤ f) (hi : Inc f l) (hb : ∀ x ∈ l, x.time ≤ 1099511627776) : codeL v l f to = seg to f v l := by
  unfold codeL
  exact seg_fold to l [] f 0 v h0 hi hb
theorem seg_ne (to : Int) : ∀ (l : List Chg) (f : Int) (v : Str), seg to f v l ≠ []
  | [], _, _ => by simp [seg]
  | x :: r, f, v => by
    simp only [seg]
    split
    · exact seg_ne to r f v
    · simp
theorem seg_vl {to : Int} (ht : to ≤ 1099511627776) : ∀ {l : List Chg} {f : Int} {v : Str} {p : Option Str}, 0 ≤ f → f ≤ to → Inc f l → (∀ x ∈ l, x.time ≤ to) → p ≠ some v → Vl f p (seg to f v l)
  | [], f, v, p, h0, hf, _, _, hp => ⟨rfl, h0, hf, ht, hp, trivial⟩
  | x :: r, f, v, p, h0, hf, ⟨h1, h2⟩, hb, hp => by
    have hb' : ∀ y ∈ r, y.time ≤ to := fun y hy => hb y (List.mem_cons_of_mem _ hy)
    have hx := hb x (List.mem_cons_self ..)
    simp only [seg]
    split
    · exact seg_vl ht h0 hf (h2.mono (by omega)) hb' hp
    · rename_i hv
      refine ⟨rfl, h0, ?_, ?_, hp, ?_⟩
      · show f ≤ x.time - 1
        omega
      · show x.time - 1 ≤ _
        omega
      · show Vl (x.time - 1 + 1) (some v) _
        rw [show x.time - 1 + 1 = x.time by omega]
        exact seg_vl ht (by omega) hx h2 hb' (fun e => hv (Option.some.inj e))
theorem lastSp_sing (x : Sp) : lastSp [x] = x := rfl
theorem lastSp_cons' (x : Sp) {l : List Sp} (h : l ≠ []) : lastSp (x :: l) = lastSp l := by
  cases l with
  | nil => exact absurd rfl h
  | cons y r => exact lastSp_cons x y r
theorem seg_last (to : Int) : ∀ (l : List Chg) (f : Int) (v : Str), (lastSp (seg to f v l)).to = to
  | [], _, _ => rfl
  | x :: r, f, v => by
    simp only [seg]
    split
    · exact seg_last to r f v
    · rw [lastSp_cons' _ (seg_ne to r _ _)]
      exact seg_last to r _ _
theorem Vl.head {l : List Sp} {f : Int} {p : Option Str} (h : Vl f p l) (hne : l ≠ []) : (l.getD 0 default).frm = f := by
  cases l with
  | nil => exact absurd rfl hne
  | cons x r => exact h.1
theorem seg_at (to : Int) : ∀ (l : List Chg) (f : Int) (v : Str) (t : Int), f ≤ t → t ≤ to → Inc f l → (∀ x ∈ l, x.time ≤ to) → atL (seg to f v l) t = valAt v l t
  | [], f, v, t, h0, h1, _, _ => by
    simp only [seg, atL, valAt, List.foldl_nil]
    rw [if_pos h1]
  | x :: r, f, v, t, h0, h1, ⟨g1, g2⟩, hb => by
    have hb' : ∀ y ∈ r, y.time ≤ to := fun y hy => hb y (List.mem_cons_of_mem _ hy)
    rw [valAt_cons]
    simp only [seg]
    split
    · rename_i hv
      rw [seg_at to r f v t h0 h1 (g2.mono (by omega)) hb', ← hv]
      cases decide (x.time ≤ t) <;> rfl
    · simp only [atL]
      by_cases ht : x.time ≤ t
      · rw [if_neg (by omega), decide_eq_true ht]
        exact seg_at to r x.time x.val t ht h1 g2 hb'
      · rw [if_pos (by omega), decide_eq_false ht]
        exact (valAt_gt r v t fun y hy => by have := g2.gt y hy; omega).symm
theorem cut_inc (to : Int) : ∀ {l : List Chg} {s f : Int}, Inc s l → Inc f (cut l f to)
  | [], _, _, _ => trivial
  | x :: r, s, f, ⟨h1, h2⟩ => by
    unfold cut
    rw [List.filter_cons]
    split
    · rename_i h
      simp only [Bool.and_eq_true, decide_eq_true_eq] at h
      refine ⟨h.1, ?_⟩
      have : (r.filter fun y => decide (y.time > f) && decide (y.time ≤ to)) = cut r x.time to := by
        unfold cut
        refine List.filter_congr fun y hy => ?_
        have := h2.gt y hy
        rw [decide_eq_true (show y.time > f by omega), decide_eq_true (show y.time > x.time by omega)]
      rw [this]
      exact cut_inc to h2
    · exact cut_inc to h2
theorem cut_le {l : List Chg} {f to : Int} : ∀ x ∈ cut l f to, x.time ≤ to := fun x hx => by
  unfold cut at hx
  have := (List.mem_filter.1 hx).2
  simp only [Bool.and_eq_true, decide_eq_true_eq] at this
  exact this.2
theorem valAt_cut {s f t to : Int} (ht : f ≤ t) (hto : t ≤ to) : ∀ {l : List Chg} (v : Str), Inc s l → valAt (valAt v l f) (cut l f to) t = valAt v l t
  | l, v, hi => by
    obtain ⟨a, b, rfl, ha, hb⟩ := hi.split f
    have hv : valAt v (a ++ b) f = valAt v a f := by rw [valAt_app]; exact valAt_gt b _ _ hb.gt
    have hc : cut (a ++ b) f to = cut b f to := by
      have : cut a f to = [] := by
        unfold cut
        rw [List.filter_eq_nil_iff]
        intro x hx
        have := ha x hx
        simp; omega
      rw [cut, List.filter_append]
      show cut a f to ++ cut b f to = _
      rw [this]; rfl
    have hva : ∀ (a : List Chg) (v : Str), (∀ x ∈ a, x.time ≤ f) → valAt v a f = valAt v a t := fun a => by
      induction a with
      | nil => intro v _; rfl
      | cons y r ih =>
        intro v h
        have := h y (List.mem_cons_self ..)
        rw [valAt_cons, valAt_cons, decide_eq_true this, decide_eq_true (show y.time ≤ t by omega)]
        exact ih _ fun z hz => h z (List.mem_cons_of_mem _ hz)
    rw [hv, hc, valAt_app, ← hva a v ha]
    generalize valAt v a f = u
    clear hv hc ha hi hva
    have hin := hb
    revert hb
    suffices h : ∀ (b : List Chg) (s : Int) (u : Str), Inc s b → valAt u (b.filter fun x => decide (x.time > f) && decide (x.time ≤ to)) t = valAt u (b.filter fun x => decide (x.time > f)) t by
      intro hb
      have e : (b.filter fun x => decide (x.time > f)) = b := List.filter_eq_self.2 fun x hx => by have := hb.gt x hx; simp; omega
      have := h b f u hb
      rw [e] at this
      exact this
    intro b
    induction b with
    | nil => intros; rfl
    | cons y r ih =>
      intro s u hi
      obtain ⟨g1, g2⟩ := hi
      rw [List.filter_cons, List.filter_cons]
      by_cases h1 : y.time > f
      · rw [decide_eq_true h1]
        by_cases h2 : y.time ≤ to
        · rw [decide_eq_true h2]
          simp only [Bool.and_self, if_true]
          rw [valAt_cons, valAt_cons]
          exact ih _ _ g2
        · rw [decide_eq_false h2]
          simp only [Bool.and_false, if_true]
          rw [valAt_cons, decide_eq_false (by omega)]
          exact ih _ _ g2
      · rw [decide_eq_false h1]
        simp only [Bool.false_and]
        exact ih _ _ g2
/-- What Of answers within the wave. -/
structure OfOk (w : Wv) (sig frm to : Int) (l : List Sp) : Prop where
  vl : Vl frm none l
  ne : l ≠ []
  last : (lastSp l).to = to
  len : l.length ≤ 100
  at_ : ∀ t, frm ≤ t → t ≤ to → atL l t = sigAt (sigOf w sig) t
theorem seg_len (to : Int) : ∀ (l : List Chg) (f : Int) (v : Str), (seg to f v l).length ≤ l.length + 1
  | [], _, _ => Nat.le_refl _
  | x :: r, f, v => by
    simp only [seg]
    split
    · have := seg_len to r f v
      simp only [List.length_cons]; omega
    · have := seg_len to r x.time x.val
      simp only [List.length_cons]; omega
theorem ofOk {w : Wv} (hw : SmOk w) {sig frm to : Int} (a : Ask w sig frm to) : OfOk w sig frm to (codeL (sigAt (sigOf w sig) frm) (cut (sigOf w sig).chg frm to) frm to) := by
  obtain ⟨hs, hk, h0, h1, h2⟩ := a
  obtain ⟨q1, _, q3⟩ := hw.at hs
  have hf := hw.fin.2
  rw [codeL_seg h0 (cut_inc to q3) (fun x hx => by have := cut_le x hx; omega)]
  refine ⟨seg_vl (by omega) h0 h1 (cut_inc to q3) cut_le (by simp), seg_ne _ _ _ _, seg_last _ _ _ _, ?_, fun t ht1 ht2 => ?_⟩
  · have := seg_len to (cut (sigOf w sig).chg frm to) frm (sigAt (sigOf w sig) frm)
    have : (cut (sigOf w sig).chg frm to).length ≤ (sigOf w sig).chg.length := List.length_filter_le _ _
    omega
  · rw [seg_at to _ frm _ t ht1 ht2 (cut_inc to q3) cut_le]
    unfold sigAt
    rw [if_neg hk, if_neg hk]
    exact valAt_cut ht1 ht2 _ q3
end Go.Proofs.Ytjajmmdnplgjmaa.S1
/- Seat 2: the value at a time; the law on values. -/
namespace Go.Proofs.Ytjajmmdnplgjmaa.S1
open Go Go.Ab Go.Proofs
theorem F36 : OkF 36 Try.f36 := ⟨by kernel_rfl, by kernel_rfl, by kernel_rfl⟩
def lv36 : List (List Nat × List Nat) := []
noncomputable def nCovs  : List Nat → Nat → Option Ans := scrAt []
theorem nCov (l : List Sp) (frm to : Int) (K : D → Prop) : runS (En Try.f36) (fi Try.f36 K) (nCovs ) lv36 200 [.code []] ⟨argSlots 0 [L l 3 Sp.d, I frm, I to], .empty⟩ =
  (((0 : Int) ≤ 0 ∧ 0 < (↑l.length : Int)) ∧ ((decide ((l.getD (Int.toNat 0) default).frm ≤ frm) = true → l.length ≤ lenM) → (decide ((l.getD (Int.toNat 0) default).frm ≤ frm) = true → 0 ≤ subI .i64 (↑l.length : Int) 1 ∧ subI .i64 (↑l.length : Int) 1 < (↑l.length : Int)) ∧ K (B (bif decide ((l.getD (Int.toNat 0) default).frm ≤ frm) then decide (to ≤ (l.getD (subI .i64 (↑l.length : Int) 1).toNat default).to) else false)))) := by kernel_rfl
theorem c36 (l : List Sp) (frm to : Int) (h0 : 0 < l.length) : Pure PP 36 [L l 3 Sp.d, I frm, I to] (B (decide ((l.getD 0 default).frm ≤ frm ∧ to ≤ (lastSp l).to))) := by
  refine pu F36 (by kernel_rfl) (of_eq (nCov l frm to _) ⟨by omega, fun h => ⟨fun h2 => ?_, ?_⟩⟩)
  · rw [lastI h0 (h h2)]; omega
  · rw [show (bif decide ((l.getD (Int.toNat 0) default).frm ≤ frm) then decide (to ≤ (l.getD (subI .i64 (l.length : Int) 1).toNat default).to) else false) = decide ((l.getD 0 default).frm ≤ frm ∧ to ≤ (lastSp l).to) by
      cases hb : decide ((l.getD (Int.toNat 0) default).frm ≤ frm) with
      | false =>
        have : ¬ (l.getD 0 default).frm ≤ frm := of_decide_eq_false hb
        exact (decide_eq_false fun h => this h.1).symm
      | true =>
        have h1 : (l.getD 0 default).frm ≤ frm := of_decide_eq_true hb
        rw [lastI h0 (h hb), Int.toNat_natCast]
        simp only [cond_true]
        rw [Bool.eq_iff_iff]
        simp only [decide_eq_true_eq]
        exact ⟨fun h => ⟨h1, h⟩, fun h => h.2⟩]
    exact Wk.refl _
instance {ds : List D} [h : DS ds] : DD (.ep ds) := ⟨h.p⟩
theorem F38 : OkF 38 Try.f38 := ⟨by kernel_rfl, by kernel_rfl, by kernel_rfl⟩
def lv38 : List (List Nat × List Nat) := []
noncomputable def nAt1s  : List Nat → Nat → Option Ans := scrAt []
theorem nAt1 (x : Sp) (t : Int) (K : D → Prop) : runS (En Try.f38) (fi Try.f38 K) (nAt1s ) lv38 200 [.code []] ⟨argSlots 0 [x.d, .ep [I t]], .empty⟩ =
  (K (B (decide (t ≤ x.to)))) := by kernel_rfl
theorem c38 (x : Sp) (t : Int) : Pure PP 38 [x.d, .ep [I t]] (B (decide (t ≤ x.to))) :=
  pu F38 (by kernel_rfl) (of_eq (nAt1 x t _) (Wk.refl _))
theorem F37 : OkF 37 Try.f37 := ⟨by kernel_rfl, by kernel_rfl, by kernel_rfl⟩
def lv37 : List (List Nat × List Nat) := [([1, 0, 1, 0], [0, 1, 7, 8])]
noncomputable def nIxs  : List Nat → Nat → Option Ans := scrAt []
theorem nIx (l : List Sp) (t : Int) (K : D → Prop) : runS (En Try.f37) (fi Try.f37 K) (nIxs ) lv37 200 [.code []] ⟨argSlots 0 [L l 3 Sp.d, .clo 38 [.ep [I t]]], .empty⟩ =
  (l.length ≤ lenM → At (En Try.f37) (fi Try.f37 K) [It.code [1, 0, 1, 0], It.blk 0, It.code [1, 1]] { sl := [(0, L l 3 Sp.d), (1, D.clo 38 [D.ep [I t]]), (7, I (↑l.length : Int)), (8, I 0)], h := Heap.empty : St }) := by kernel_rfl
def SIx (l : List Sp) (t i : Int) : St := ⟨[(0, L l 3 Sp.d), (1, .clo 38 [.ep [I t]]), (7, I l.length), (8, I i)], .empty⟩
noncomputable def nIxas (l : List Sp) (t : Int) (i : Int) : List Nat → Nat → Option Ans := scrAt [([1, 0, 1, 0, 0, 1, 1, 0, 0, 1, 0], 5, Ans.pure [(l.getD i.toNat default).d, D.ep [I t]] (B (decide (t ≤ (l.getD i.toNat default).to))))]
theorem nIxa (l : List Sp) (t i : Int) (J : St → Prop) (K : D → Prop) : runS (En Try.f37) (fi Try.f37 K) (nIxas l t i) lv37 200 [.code [1, 0, 1, 0, 0], stp [0, 1, 7, 8] J, .blk 0, .code [1, 1]] (SIx l t i) =
  (bif decide (i < (↑l.length : Int)) then (0 ≤ i ∧ i < (↑l.length : Int)) ∧ PureW PP 38 [(l.getD i.toNat default).d, D.ep [I t]] [(l.getD i.toNat default).d, D.ep [I t]] (B (decide (t ≤ (l.getD i.toNat default).to))) ∧ bif decide (t ≤ (l.getD i.toNat default).to) then K (I i) else J { sl := [(0, L l 3 Sp.d), (1, D.clo 38 [D.ep [I t]]), (7, I (↑l.length : Int)), (8, I (addI .i64 i 1))], h := Heap.empty : St } else K (I (-1))) := by kernel_rfl
theorem c37 (l : List Sp) (t : Int) (h0 : 0 < l.length) (ht : t ≤ (lastSp l).to) : Pure PP 37 [L l 3 Sp.d, .clo 38 [.ep [I t]]] (I ((adv l t 0 : Nat) : Int)) := by
  refine pu F37 (by kernel_rfl) (of_eq (nIx l t _) fun hl => ?_)
  refine lp (fn := Try.f37) (fun i : Nat => i < l.length ∧ adv l t i = adv l t 0) (fun i => SIx l t i) (fun i => l.length - i) [0, 1, 7, 8] (by kernel_rfl) (fun i hi => of_eq (nIxa l t i _ _) ?_) 0 ⟨h0, rfl⟩
  obtain ⟨hi, he⟩ := hi
  rw [decide_eq_true (show (i : Int) < (l.length : Int) by omega), Int.toNat_natCast, add1 hi hl]
  simp only [cond_true]
  refine ⟨⟨by omega, by omega⟩, PureW.mk (c38 _ _), cond_intro (fun h => ?_) fun h => ?_⟩
  · have h : t ≤ (l.getD i default).to := of_decide_eq_true h
    rw [adv_ge hi (by omega)] at he
    rw [← he]; exact Wk.refl _
  · have h : ¬ t ≤ (l.getD i default).to := of_decide_eq_false h
    have hne : i + 1 < l.length := by
      rcases Nat.lt_or_ge (i + 1) l.length with h1 | h1
      · exact h1
      · have : i = l.length - 1 := by omega
        subst this
        exact absurd ht (by unfold lastSp; omega)
    exact Nx.mk (i + 1) ⟨hne, by rw [← he, adv_lt hi (by omega)]⟩ (by omega)
def lvAt : List (List Nat × List Nat) := [([1, 1, 0], [0, 3])]
theorem F18 : OkF 18 Try.f18 := ⟨by kernel_rfl, by kernel_rfl, by kernel_rfl⟩
def lv18 : List (List Nat × List Nat) := []
noncomputable def nAts (l : List Sp) (t : Int) : List Nat → Nat → Option Ans := scrAt [([1, 0, 0, 0], 1, Ans.pure [L l 3 Sp.d] (B (validL l))), ([1, 0, 0, 1, 1, 0], 3, Ans.pure [L l 3 Sp.d, I t, I t] (B (decide ((l.getD 0 default).frm ≤ t ∧ t ≤ (lastSp l).to))))]
theorem nAt (l : List Sp) (t : Int) (K : D → Prop) : runS (En Try.f18) (fi Try.f18 K) (nAts l t) lvAt 200 [.code []] ⟨argSlots 0 [L l 3 Sp.d, I t], .empty⟩ =
  (PureW PP 17 [L l 3 Sp.d] [L l 3 Sp.d] (B (validL l)) ∧ bif !validL l then K (.tup [.str { data := #[] : ByteArray }.data.toList, I 1]) else PureW PP 36 [L l 3 Sp.d, I t, I t] [L l 3 Sp.d, I t, I t] (B (decide ((l.getD 0 default).frm ≤ t ∧ t ≤ (lastSp l).to))) ∧ bif !decide ((l.getD 0 default).frm ≤ t ∧ t ≤ (lastSp l).to) then K (.tup [.str { data := #[] : ByteArray }.data.toList, I 2]) else At (En Try.f18) (fi Try.f18 K) [It.code [1, 1, 0], It.code [1, 1, 1]] { sl := [(0, L l 3 Sp.d), (3, .own [I t])], h := Heap.empty : St }) := by kernel_rfl
noncomputable def nAtbs (l : List Sp) (t : Int) : List Nat → Nat → Option Ans := scrAt [([1, 1, 0], 3, Ans.pure [L l 3 Sp.d, D.clo 38 [D.ep [I t]]] (I (↑(adv l t 0) : Int)))]
theorem nAtb (l : List Sp) (t : Int) (K : D → Prop) : runS (En Try.f18) (fi Try.f18 K) (nAtbs l t) nolv 200 [.code [1, 1, 0], .code [1, 1, 1]] ⟨[(0, L l 3 Sp.d), (3, .ep [I t])], .empty⟩ =
  (PureW PP 37 [L l 3 Sp.d, D.clo 38 [D.ep [I t]]] [L l 3 Sp.d, D.clo 38 [D.ep [I t]]] (I (↑(adv l t 0) : Int)) ∧ (0 ≤ (↑(adv l t 0) : Int) ∧ (↑(adv l t 0) : Int) < (↑l.length : Int)) ∧ K (.tup [.str (l.getD (↑(adv l t 0) : Int).toNat default).val, I 0])) := by kernel_rfl
def atR (l : List Sp) (t : Int) : Str × Int := if (l.getD 0 default).frm ≤ t ∧ t ≤ (lastSp l).to then ((l.getD (adv l t 0) default).val, 0) else ([], 2)
theorem c18 (l : List Sp) (t : Int) (hv : validL l = true) : Pure PP 18 [L l 3 Sp.d, I t] (.tup [.str (atR l t).1, I (atR l t).2]) := by
  obtain ⟨h0, _, _, _⟩ := validL_facts hv
  refine pu F18 (by kernel_rfl) (of_eq (nAt l t _) ⟨PureW.mk (c17 _), ?_⟩)
  rw [hv]
  refine ⟨PureW.mk (c36 l t t h0), cond_intro (fun h => ?_) fun h => ?_⟩
  · have h : ¬ ((l.getD 0 default).frm ≤ t ∧ t ≤ (lastSp l).to) := by
      intro hc; rw [decide_eq_true hc] at h; cases h
    rw [atR, if_neg h]; exact Wk.refl _
  · have h : (l.getD 0 default).frm ≤ t ∧ t ≤ (lastSp l).to := by
      rcases Classical.em ((l.getD 0 default).frm ≤ t ∧ t ≤ (lastSp l).to) with hc | hc
      · exact hc
      · rw [decide_eq_false hc] at h; cases h
    rw [atR, if_pos h]
    obtain ⟨_, h1, _⟩ := adv_in h.2 _ 0 rfl h0
    refine at_le (st' := ⟨[(0, L l 3 Sp.d), (3, .ep [I t])], .empty⟩) ?_ ((StLe.layOwn 3 rfl (by kernel_rfl)).cast (by kernel_rfl))
    refine runS_sound hmix _ _ _ (of_eq (nAtb l t _) ⟨PureW.mk (c37 l t h0 h.2), ⟨by omega, by omega⟩, ?_⟩)
    rw [Int.toNat_natCast]; exact Wk.refl _
theorem adv_at (t : Int) : ∀ {l : List Sp}, l ≠ [] → t ≤ (lastSp l).to → (l.getD (adv l t 0) default).val = atL l t
  | [], h, _ => absurd rfl h
  | x :: r, _, ht => by
    unfold adv
    simp only [List.drop_zero, Nat.zero_add, atL, List.takeWhile_cons]
    by_cases hx : t ≤ x.to
    · rw [if_pos hx, decide_eq_false (by omega)]; rfl
    · rw [if_neg hx, decide_eq_true (by omega)]
      have hr : r ≠ [] := by
        intro e
        subst e
        exact hx (by simpa [lastSp] using ht)
      rw [lastSp_cons' x hr] at ht
      have := adv_at t hr ht
      unfold adv at this
      simp only [List.drop_zero, Nat.zero_add] at this
      simpa [List.getD] using this
theorem OfOk.at {w : Wv} {sig frm to : Int} {l : List Sp} (h : OfOk w sig frm to l) (t : Int) : atR l t = if frm ≤ t ∧ t ≤ to then (sigAt (sigOf w sig) t, 0) else ([], 2) := by
  unfold atR
  rw [h.vl.head h.ne, h.last]
  by_cases hc : frm ≤ t ∧ t ≤ to
  · rw [if_pos hc, if_pos hc, adv_at t h.ne (by rw [h.last]; exact hc.2), h.at_ t hc.1 hc.2]
  · rw [if_neg hc, if_neg hc]
def lvVa : List (List Nat × List Nat) := [([1, 1, 0], [1, 2, 3, 4])]
def lvVb : List (List Nat × List Nat) := [([1, 1, 1, 1, 0, 1, 0], [1, 2, 3, 4, 9, 94])]
theorem F6 : OkF 6 Try.f6 := ⟨by kernel_rfl, by kernel_rfl, by kernel_rfl⟩
def lv6 : List (List Nat × List Nat) := [([1, 1, 1, 1, 0, 1, 0], [1, 2, 3, 4, 9, 94])]
noncomputable def nVas (w : Wv) : List Nat → Nat → Option Ans := scrAt [([1, 0, 0], 1, Ans.pure [w.d] (B (smB w))), ([1, 0, 1, 0, 0], 0, Ans.pure [] (B true))]
theorem nVa (w : Wv) (sig frm to : Int) (K : D → Prop) : runS (En Try.f6) (fi Try.f6 K) (nVas w) lvVa 200 [.code []] ⟨argSlots 0 [w.d, I sig, I frm, I to], .empty⟩ =
  (PureW PP 9 [w.d] [w.d] (B (smB w)) ∧ (((!bif !smB w then true else decide (sig < 0)) = true → w.sig.length ≤ lenM) → ((!bif bif bif bif bif !smB w then true else decide (sig < 0) then true else decide (sig ≥ (↑w.sig.length : Int)) then true else decide (frm < 0) then true else decide (frm > to) then true else decide (to > w.fin)) = true → 0 ≤ sig ∧ sig < (↑w.sig.length : Int)) ∧ bif bif bif bif bif bif bif !smB w then true else decide (sig < 0) then true else decide (sig ≥ (↑w.sig.length : Int)) then true else decide (frm < 0) then true else decide (frm > to) then true else decide (to > w.fin) then true else (w.sig.getD sig.toNat default).kind == 3 then PureW PP 10 [] [] (B true) ∧ K (B true) else At (En Try.f6) (fi Try.f6 K) [It.code [1, 1, 0], It.code [1, 1, 1]] { sl := [(1, I sig), (2, I frm), (3, I to), (4, .own [L w.sig 3 Sig.d, L w.gap 2 Iv.d, I w.fin])], h := Heap.empty : St })) := by kernel_rfl
noncomputable def nVbs (w : Wv) (sig : Int) (frm : Int) (to : Int) : List Nat → Nat → Option Ans := scrAt [([1, 1, 0], 1, Ans.eff (D.bp 0 0) (hM w (-1) 0)), ([1, 1, 0], 6, Ans.eff (.tup [L (ofR w (-1) 0 sig frm to).fst 3 Sp.d, I (ofR w (-1) 0 sig frm to).snd.fst]) (hMn w (-1) (ofR w (-1) 0 sig frm to).snd.snd)), ([1, 1, 1, 0, 0], 4, Ans.pure [L (ofR w (-1) 0 sig frm to).fst 3 Sp.d] (B (validL (ofR w (-1) 0 sig frm to).fst)))]
theorem nVb (w : Wv) (sig frm to : Int) (K : D → Prop) : runS (En Try.f6) (fi Try.f6 K) (nVbs w sig frm to) lvVb 200 [.code [1, 1, 0], .code [1, 1, 1]] ⟨[(1, I sig), (2, I frm), (3, I to), (4, .own [L w.sig 3 Sig.d, L w.gap 2 Iv.d, I w.fin])], .empty⟩ =
  (Does PP 12 [.agg [L w.sig 3 Sig.d, L w.gap 2 Iv.d, I w.fin]] Heap.empty (D.bp 0 0) (hM w (-1) 0) ∧
  Does PP 11 [D.iface 32 (D.bp 0 0), I sig, I frm, I to] { box := upd (fun _ => none) 0 (some (Row.lit [L w.sig 3 Sig.d, L w.gap 2 Iv.d, I w.fin, I (-1), I 0])), nl := 1, hw := fun _ => none, nt := 0, vw := fun _ => none : Heap } (.tup [L (ofR w (-1) 0 sig frm to).fst 3 Sp.d, I (ofR w (-1) 0 sig frm to).snd.fst]) (hMn w (-1) (ofR w (-1) 0 sig frm to).snd.snd) ∧
    ((!(ofR w (-1) 0 sig frm to).snd.fst != 0) = true → PureW PP 17 [L (ofR w (-1) 0 sig frm to).fst 3 Sp.d] [L (ofR w (-1) 0 sig frm to).fst 3 Sp.d] (B (validL (ofR w (-1) 0 sig frm to).fst))) ∧
      (((!bif (ofR w (-1) 0 sig frm to).snd.fst != 0 then true else !validL (ofR w (-1) 0 sig frm to).fst) = true → (ofR w (-1) 0 sig frm to).fst.length ≤ lenM) →
        ((!bif bif (ofR w (-1) 0 sig frm to).snd.fst != 0 then true else !validL (ofR w (-1) 0 sig frm to).fst then true else (↑(ofR w (-1) 0 sig frm to).fst.length : Int) == 0) = true → (0 : Int) ≤ 0 ∧ 0 < (↑(ofR w (-1) 0 sig frm to).fst.length : Int)) ∧
          (((!bif bif bif (ofR w (-1) 0 sig frm to).snd.fst != 0 then true else !validL (ofR w (-1) 0 sig frm to).fst then true else (↑(ofR w (-1) 0 sig frm to).fst.length : Int) == 0 then true else ((ofR w (-1) 0 sig frm to).fst.getD 0 default).frm != frm) = true → (ofR w (-1) 0 sig frm to).fst.length ≤ lenM) → ((!bif bif bif (ofR w (-1) 0 sig frm to).snd.fst != 0 then true else !validL (ofR w (-1) 0 sig frm to).fst then true else (↑(ofR w (-1) 0 sig frm to).fst.length : Int) == 0 then true else ((ofR w (-1) 0 sig frm to).fst.getD 0 default).frm != frm) = true → 0 ≤ subI .i64 (↑(ofR w (-1) 0 sig frm to).fst.length : Int) 1 ∧ subI .i64 (↑(ofR w (-1) 0 sig frm to).fst.length : Int) 1 < (↑(ofR w (-1) 0 sig frm to).fst.length : Int)) ∧ bif bif bif bif bif (ofR w (-1) 0 sig frm to).snd.fst != 0 then true else !validL (ofR w (-1) 0 sig frm to).fst then true else (↑(ofR w (-1) 0 sig frm to).fst.length : Int) == 0 then true else ((ofR w (-1) 0 sig frm to).fst.getD 0 default).frm != frm then true else ((ofR w (-1) 0 sig frm to).fst.getD (subI .i64 (↑(ofR w (-1) 0 sig frm to).fst.length : Int) 1).toNat default).to != to then K (B false) else At (En Try.f6) (fi Try.f6 K) [It.code [1, 1, 1, 1, 0, 1, 0], It.blk 0, It.code [1, 1, 1, 1, 1]] { sl := [(1, I sig), (2, I frm), (3, I to), (4, .own [L w.sig 3 Sig.d, L w.gap 2 Iv.d, I w.fin]), (9, L (ofR w (-1) 0 sig frm to).fst 3 Sp.d), (94, I 0)], h := { box := upd (fun _ => none) 0 (some (Row.lit [L w.sig 3 Sig.d, L w.gap 2 Iv.d, I w.fin, I (-1), I (ofR w (-1) 0 sig frm to).snd.snd])), nl := 4, hw := fun _ => none, nt := 1, vw := fun _ => none : Heap } : St }))) := by kernel_rfl
def SV (w : Wv) (sig frm to : Int) (l : List Sp) (t : Int) : St := ⟨[(1, I sig), (2, I frm), (3, I to), (4, .own [L w.sig 3 Sig.d, L w.gap 2 Iv.d, I w.fin]), (9, L l 3 Sp.d), (94, I t)], hR⟩
noncomputable def nVcs (w : Wv) (sig : Int) (l : List Sp) (t : Int) : List Nat → Nat → Option Ans := scrAt [([1, 1, 1, 1, 0, 1, 0, 0, 1, 1, 0, 0, 1, 0], 2, Ans.pure [L l 3 Sp.d, I t] (.tup [.str (atR l t).fst, I (atR l t).snd])), ([1, 1, 1, 1, 0, 1, 0, 0, 1, 1, 0, 0, 1, 1, 0], 22, Ans.pure [(w.sig.getD sig.toNat default).d, I t] (.str (sigAt (w.sig.getD sig.toNat default) t))), ([1, 1, 1, 1, 1, 0], 0, Ans.pure [] (B true))]
theorem nVc (w : Wv) (sig frm to : Int) (l : List Sp) (t : Int) (J : St → Prop) (K : D → Prop) : runS (En Try.f6) (fi Try.f6 K) (nVcs w sig l t) nolv 200 [.code [1, 1, 1, 1, 0, 1, 0, 0], stp [1, 2, 3, 4, 9, 94] J, .blk 0, .code [1, 1, 1, 1, 1]] (SV w sig frm to l t) =
  (bif decide (t < 61) then PureW PP 18 [L l 3 Sp.d, I t] [L l 3 Sp.d, I t] (.tup [.str (atR l t).fst, I (atR l t).snd]) ∧ (((!!((atR l t).snd == 0) == bif decide (frm ≤ t) then decide (t ≤ to) else false) && (atR l t).snd == 0) = true → 0 ≤ sig ∧ sig < (↑w.sig.length : Int)) ∧ (((!!((atR l t).snd == 0) == bif decide (frm ≤ t) then decide (t ≤ to) else false) && (atR l t).snd == 0) = true → PureW PP 16 [(w.sig.getD sig.toNat default).d, I t] [(w.sig.getD sig.toNat default).d, I t] (.str (sigAt (w.sig.getD sig.toNat default) t))) ∧ bif bif !((atR l t).snd == 0) == bif decide (frm ≤ t) then decide (t ≤ to) else false then true else bif (atR l t).snd == 0 then !(atR l t).fst == sigAt (w.sig.getD sig.toNat default) t else false then K (B false) else J { sl := [(1, I sig), (2, I frm), (3, I to), (4, .own [L w.sig 3 Sig.d, L w.gap 2 Iv.d, I w.fin]), (9, L l 3 Sp.d), (94, I (addI .i64 t 1))], h := { box := fun _ => none, nl := 4, hw := fun _ => none, nt := 1, vw := fun _ => none : Heap } : St } else PureW PP 10 [] [] (B true) ∧ K (B true)) := by kernel_rfl
theorem heap_hR {h : Heap} (hn : h.nl ≤ 4) (ht : h.nt ≤ 1) : HeapLe h hR := ⟨fun l row' e => (by cases e), hn, fun t n e => (by cases e), ht, fun t n e => (by cases e), fun _ _ => rfl⟩
theorem c6 (w : Wv) (sig frm to : Int) : Pure PP 6 [w.d, I sig, I frm, I to] (B true) := by
  refine pu F6 (by kernel_rfl) (of_eq (nVa w sig frm to _) ⟨PureW.mk (c9 _), fun _ => ⟨ask_in, cond_intro (fun _ => ⟨PureW.mk c10, Wk.refl _⟩) fun h => ?_⟩⟩)
  obtain ⟨hw, ha⟩ := ask_of h
  obtain ⟨_, q2, _⟩ := hw.at ha.hsig
  have hO := (ofR_ask hw (lim := -1) ha).1 (.inl (by omega))
  have hK := ofOk hw ha
  refine runS_sound hmix _ _ _ (of_eq (nVb w sig frm to _) ⟨e12 w, e11 hw.of 0, fun _ => PureW.mk (c17 _), ?_⟩)
  rw [hO]
  simp only
  generalize codeL (sigAt (sigOf w sig) frm) (cut (sigOf w sig).chg frm to) frm to = l at hK ⊢
  have hv : validL l = true := hK.vl.valid hK.ne
  have h0 : 0 < l.length := List.length_pos_iff.2 hK.ne
  have hlen := hK.len
  have hlast : subI .i64 (l.length : Int) 1 = ((l.length - 1 : Nat) : Int) := lastI h0 (by unfold lenM; omega)
  have hf : (l.getD 0 default).frm = frm := hK.vl.head hK.ne
  have ht : (l.getD (l.length - 1) default).to = to := hK.last
  have hz : ((l.length : Int) == 0) = false := by rw [beq_eq_false_iff_ne]; omega
  rw [hv, hlast, Int.toNat_natCast, hf, ht, hz]
  simp only [bne_self_eq_false, Bool.not_true, cond_false]
  refine fun _ => ⟨fun _ => ⟨by omega, by omega⟩, fun _ => ⟨fun _ => ⟨by omega, by omega⟩, ?_⟩⟩
  refine at_le (st' := SV w sig frm to l (0 : Nat)) ?_ (StLe.heapLe (heap_hR (Nat.le_refl _) (Nat.le_refl _)))
  refine lp (fn := Try.f6) (fun t : Nat => t ≤ 61) (fun t => SV w sig frm to l t) (fun t => 61 - t) [1, 2, 3, 4, 9, 94] (by kernel_rfl) (fun t ht => of_eq (nVc w sig frm to l t _ _) ?_) 0 (by omega)
  refine cond_intro (fun hlt => ?_) fun _ => ⟨PureW.mk c10, Wk.refl _⟩
  have hlt : (t : Int) < 61 := of_decide_eq_true hlt
  have ha1 : addI .i64 (t : Int) 1 = ((t + 1 : Nat) : Int) := by rw [add64 (by omega) (by omega)]; rfl
  rw [ha1]
  have hsg : w.sig.getD sig.toNat default = sigOf w sig := rfl
  rw [hsg]
  refine ⟨PureW.mk (c18 _ _ hv), fun _ => ha.hsig, fun _ => PureW.mk (c16 _ _ (by omega)), ?_⟩
  rw [hK.at t]
  by_cases hc : frm ≤ (t : Int) ∧ (t : Int) ≤ to
  · rw [if_pos hc, decide_eq_true hc.1, decide_eq_true hc.2]
    simp only [cond_true, beq_self_eq_true, Bool.not_true, cond_false]
    exact Nx.mk (t + 1) (by omega) (by omega)
  · rw [if_neg hc]
    have : (bif decide (frm ≤ (t : Int)) then decide ((t : Int) ≤ to) else false) = false := by
      cases h1 : decide (frm ≤ (t : Int)) with
      | false => rfl
      | true => exact decide_eq_false fun h2 => hc ⟨of_decide_eq_true h1, h2⟩
    rw [this, show (((2 : Int) == 0) = false) from rfl]
    simp only [beq_self_eq_true, Bool.not_true, cond_false]
    exact Nx.mk (t + 1) (by omega) (by omega)
end Go.Proofs.Ytjajmmdnplgjmaa.S1
/- Seat 2: plain law of zipped lists. -/
namespace Go.Proofs.Ytjajmmdnplgjmaa.S1
open Go Go.Ab Go.Proofs
theorem adv_nil (t : Int) (p : Nat) : adv [] t p = p := by unfold adv; simp
theorem adv_zero (x : Sp) (r : List Sp) (t : Int) : adv (x :: r) t 0 = if x.to < t then adv r t 0 + 1 else 0 := by
  unfold adv
  simp only [List.drop_zero, Nat.zero_add, List.takeWhile_cons]
  by_cases h : x.to < t
  · rw [decide_eq_true h, if_pos h]; simp
  · rw [decide_eq_false h, if_neg h]; rfl
theorem adv_succ (x : Sp) (r : List Sp) (t : Int) (p : Nat) : adv (x :: r) t (p + 1) = adv r t p + 1 := by
  unfold adv
  simp only [List.drop_succ_cons]
  omega
theorem adv_adv {t t' : Int} (h : t ≤ t') : ∀ l : List Sp, adv l t' (adv l t 0) = adv l t' 0
  | [] => by rw [adv_nil, adv_nil, adv_nil]
  | x :: r => by
    rw [adv_zero x r t]
    by_cases hx : x.to < t
    · rw [if_pos hx, adv_succ, adv_zero, if_pos (by omega), adv_adv h r]
    · rw [if_neg hx]
/-- The span at a time. -/
theorem span_at : ∀ {l : List Sp} {f : Int} {p : Option Str}, Vl f p l → ∀ t, l ≠ [] → t ≤ (lastSp l).to →
    t ≤ (l.getD (adv l t 0) default).to ∧ (l.getD (adv l t 0) default).to ≤ (lastSp l).to ∧ (∀ u, t ≤ u → u ≤ (l.getD (adv l t 0) default).to → atL l u = (l.getD (adv l t 0) default).val) ∧
    ((l.getD (adv l t 0) default).to < (lastSp l).to → (l.getD (adv l t 0) default).val ≠ atL l ((l.getD (adv l t 0) default).to + 1))
  | [], _, _, _, _, h, _ => absurd rfl h
  | x :: r, f, p, ⟨h1, h2, h3, h4, h5, h6⟩, t, _, ht => by
    rw [adv_zero]
    by_cases hx : x.to < t
    · rw [if_pos hx]
      have hr : r ≠ [] := by
        intro e; subst e
        have : t ≤ x.to := ht
        omega
      rw [lastSp_cons' x hr] at ht ⊢
      obtain ⟨g1, g2, g3, g4⟩ := span_at h6 t hr ht
      have e : ∀ n, (x :: r).getD (n + 1) default = r.getD n default := fun n => by simp [List.getD]
      rw [e]
      refine ⟨g1, g2, fun u hu hu2 => ?_, fun h => ?_⟩
      · simp only [atL]
        rw [if_neg (by omega)]
        exact g3 u hu hu2
      · simp only [atL]
        rw [if_neg (by omega)]
        exact g4 h
    · rw [if_neg hx]
      have e : (x :: r).getD 0 default = x := rfl
      rw [e]
      refine ⟨by omega, ?_, fun u hu hu2 => ?_, fun h => ?_⟩
      · cases r with
        | nil => exact Int.le_refl _
        | cons y s => rw [lastSp_cons]; have := Vl.last h6 (by simp); omega
      · simp only [atL]
        rw [if_pos hu2]
      · simp only [atL]
        rw [if_neg (by omega)]
        cases r with
        | nil => exact absurd h (by show ¬ x.to < x.to; omega)
        | cons y s =>
          obtain ⟨k1, k2, k3, _, k5, _⟩ := h6
          simp only [atL]
          rw [if_pos k3]
          exact fun e => k5 (by rw [e])
/-- Rows that cover a range. -/
def RowsOk (A B : Int → Str) (T : Int) : Int → Option (Str × Str) → List Rw → Prop
  | f, _, [] => f = T + 1
  | f, p, r :: rs => r.frm = f ∧ f ≤ r.to ∧ r.to ≤ T ∧ r.vals = [A f, B f] ∧ A r.to = A f ∧ B r.to = B f ∧ p ≠ some (A f, B f) ∧ RowsOk A B T (r.to + 1) (some (A f, B f)) rs
theorem zip_ok {a b : List Sp} {T fa fb : Int} (ha : Vl fa none a) (hb : Vl fb none b) (na : a ≠ []) (nb : b ≠ []) (ta : (lastSp a).to = T) (tb : (lastSp b).to = T) :
    ∀ (n : Nat) (frm : Int) (p q : Nat) (pv : Option (Str × Str)), 0 ≤ frm → frm ≤ T + 1 → (T + 1 - frm).toNat ≤ n → adv a frm p = adv a frm 0 → adv b frm q = adv b frm 0 → (frm ≤ T → pv ≠ some (atL a frm, atL b frm)) →
      RowsOk (atL a) (atL b) T frm pv (zipW a b T n frm p q)
  | 0, frm, p, q, pv, h0, h1, hn, _, _, _ => by
    show frm = T + 1
    omega
  | n + 1, frm, p, q, pv, h0, h1, hn, hp, hq, hv => by
    simp only [zipW]
    by_cases hle : frm ≤ T
    · rw [if_pos hle, hp, hq]
      obtain ⟨a1, a2, a3, a4⟩ := span_at ha frm na (by rw [ta]; exact hle)
      obtain ⟨b1, b2, b3, b4⟩ := span_at hb frm nb (by rw [tb]; exact hle)
      rw [ta] at a2 a4
      rw [tb] at b2 b4
      have hT := (ha.last na).2
      rw [ta] at hT
      have a0 := a3 frm (Int.le_refl _) a1
      have b0 := b3 frm (Int.le_refl _) b1
      have hpa := fun (t' : Int) (h : frm ≤ t') => adv_adv h a
      have hpb := fun (t' : Int) (h : frm ≤ t') => adv_adv h b
      generalize adv a frm 0 = p' at *
      generalize adv b frm 0 = q' at *
      generalize hm : mnI (b.getD q' default).to (mnI (a.getD p' default).to T) = m
      have hm1 : frm ≤ m ∧ m ≤ T ∧ m ≤ (a.getD p' default).to ∧ m ≤ (b.getD q' default).to ∧ (m < T → m = (a.getD p' default).to ∨ m = (b.getD q' default).to) := by
        rw [← hm]
        unfold mnI
        (repeat' split) <;> omega
      obtain ⟨m1, m2, m3, m4, m5⟩ := hm1
      rw [add64 (a := m) (b := 1) (by omega) (by omega)]
      refine ⟨rfl, m1, m2, by rw [a0, b0], ?_, ?_, hv hle, ?_⟩
      · rw [a0]; exact a3 m m1 m3
      · rw [b0]; exact b3 m m1 m4
      · refine zip_ok ha hb na nb ta tb n (m + 1) p' q' _ (by omega) (by omega) (by omega) (hpa _ (by omega)) (hpb _ (by omega)) fun h e => ?_
        have e1 := congrArg Prod.fst (Option.some.inj e)
        have e2 := congrArg Prod.snd (Option.some.inj e)
        simp only at e1 e2
        rw [a0] at e1
        rw [b0] at e2
        rcases m5 (by omega) with hh | hh
        · rw [hh] at e1
          exact a4 (by omega) e1
        · rw [hh] at e2
          exact b4 (by omega) e2
    · rw [if_neg hle]
      show frm = T + 1
      omega
theorem RowsOk.last {A B : Int → Str} {T : Int} : ∀ {rs : List Rw} {f : Int} {p : Option (Str × Str)}, RowsOk A B T f p rs → rs ≠ [] → (rs.getD (rs.length - 1) default).to = T
  | [], _, _, _, h => absurd rfl h
  | [x], _, _, ⟨_, _, _, _, _, _, _, h⟩, _ => by
    have : x.to + 1 = T + 1 := h
    show x.to = T
    omega
  | x :: y :: r, _, _, ⟨_, _, _, _, _, _, _, h⟩, _ => by
    have := RowsOk.last h (by simp)
    simpa [List.getD] using this
theorem zipR_ok {w : Wv} {i k frm to : Int} {a b : List Sp} (ha : OfOk w i frm to a) (hb : OfOk w k frm to b) (h0 : 0 ≤ frm) (hle : frm ≤ to) : ZipOk a b ∧ RowsOk (atL a) (atL b) to frm none (zipR a b) := by
  refine ⟨⟨ha.vl.valid ha.ne, hb.vl.valid hb.ne, by rw [ha.vl.head ha.ne, hb.vl.head hb.ne], by rw [ha.last, hb.last]⟩, ?_⟩
  unfold zipR
  rw [ha.last, ha.vl.head ha.ne]
  exact zip_ok ha.vl hb.vl ha.ne hb.ne ha.last hb.last _ frm 0 0 none h0 (by omega) (Nat.le_refl _) rfl rfl (by simp)
end Go.Proofs.Ytjajmmdnplgjmaa.S1
/- Seat 2: the law on rows. -/
namespace Go.Proofs.Ytjajmmdnplgjmaa.S1
open Go Go.Ab Go.Proofs
def lvRc : List (List Nat × List Nat) := [([1, 1, 1, 1, 1, 1, 0, 1, 0], [1, 2, 5, 15, 141, 142, 143])]
def lvRd : List (List Nat × List Nat) := [([1, 1, 1, 1, 1, 1, 0, 1, 0, 0, 1, 1, 0, 0, 1, 0], [1, 2, 5, 15, 17, 18, 141, 142, 143]), ([1, 1, 1, 1, 1, 1, 0, 1, 0, 0, 1, 1, 0, 0, 1, 1, 0], [1, 2, 5, 15, 18, 141, 142, 143]), ([1, 1, 1, 1, 1, 1, 0, 1, 0, 0, 1, 1, 0, 0, 1, 1, 1, 0], [1, 2, 5, 15, 18, 141, 142, 143, 209, 210, 211])]
def lvRwa : List (List Nat × List Nat) := [([1, 1, 0], [1, 2, 3, 4, 5])]
def lvRwb : List (List Nat × List Nat) := [([1, 1, 1, 1, 0], [1, 2, 3, 4, 5, 11, 12, 13, 14])]
theorem F5 : OkF 5 Try.f5 := ⟨by kernel_rfl, by kernel_rfl, by kernel_rfl⟩
def lv5 : List (List Nat × List Nat) := [([1, 1, 1, 1, 1, 1, 0, 1, 0], [1, 2, 5, 15, 141, 142, 143]), ([1, 1, 1, 1, 1, 1, 0, 1, 0, 0, 1, 1, 0, 0, 1, 1, 1, 0], [1, 2, 5, 15, 18, 141, 142, 143, 209, 210, 211])]
noncomputable def nRwas (w : Wv) : List Nat → Nat → Option Ans := scrAt [([1, 0, 0], 1, Ans.pure [w.d] (B (smB w))), ([1, 0, 1, 0, 0], 0, Ans.pure [] (B true))]
theorem nRwa (w : Wv) (i k frm to : Int) (K : D → Prop) : runS (En Try.f5) (fi Try.f5 K) (nRwas w) lvRwa 200 [.code []] ⟨argSlots 0 [w.d, I i, I k, I frm, I to], .empty⟩ =
  (PureW PP 9 [w.d] [w.d] (B (smB w)) ∧ (((!bif bif !smB w then true else decide (i < 0) then true else decide (k < 0)) = true → w.sig.length ≤ lenM) → ((!bif bif bif !smB w then true else decide (i < 0) then true else decide (k < 0) then true else decide (i ≥ (↑w.sig.length : Int))) = true → w.sig.length ≤ lenM) → ((!bif bif bif bif bif bif bif !smB w then true else decide (i < 0) then true else decide (k < 0) then true else decide (i ≥ (↑w.sig.length : Int)) then true else decide (k ≥ (↑w.sig.length : Int)) then true else decide (frm < 0) then true else decide (frm > to) then true else decide (to > w.fin)) = true → 0 ≤ i ∧ i < (↑w.sig.length : Int)) ∧ ((!bif bif bif bif bif bif bif bif !smB w then true else decide (i < 0) then true else decide (k < 0) then true else decide (i ≥ (↑w.sig.length : Int)) then true else decide (k ≥ (↑w.sig.length : Int)) then true else decide (frm < 0) then true else decide (frm > to) then true else decide (to > w.fin) then true else (w.sig.getD i.toNat default).kind == 3) = true → 0 ≤ k ∧ k < (↑w.sig.length : Int)) ∧ bif bif bif bif bif bif bif bif bif bif !smB w then true else decide (i < 0) then true else decide (k < 0) then true else decide (i ≥ (↑w.sig.length : Int)) then true else decide (k ≥ (↑w.sig.length : Int)) then true else decide (frm < 0) then true else decide (frm > to) then true else decide (to > w.fin) then true else (w.sig.getD i.toNat default).kind == 3 then true else (w.sig.getD k.toNat default).kind == 3 then PureW PP 10 [] [] (B true) ∧ K (B true) else At (En Try.f5) (fi Try.f5 K) [It.code [1, 1, 0], It.code [1, 1, 1]] { sl := [(1, I i), (2, I k), (3, I frm), (4, I to), (5, .own [L w.sig 3 Sig.d, L w.gap 2 Iv.d, I w.fin])], h := Heap.empty : St })) := by kernel_rfl
noncomputable def nRwbs (w : Wv) (i : Int) (k : Int) (frm : Int) (to : Int) : List Nat → Nat → Option Ans := scrAt [([1, 1, 0], 1, Ans.eff (D.bp 0 0) (hM w (-1) 0)), ([1, 1, 0], 6, Ans.eff (.tup [L (ofR w (-1) 0 i frm to).fst 3 Sp.d, I (ofR w (-1) 0 i frm to).snd.fst]) (hMn w (-1) (ofR w (-1) 0 i frm to).snd.snd)), ([1, 1, 1, 0], 1, Ans.eff (ren (rnm [] 4) (rnm [] 1) (D.bp 0 0)) (frameH [] [] { box := upd (fun _ => none) 0 (some (Row.lit [L w.sig 3 Sig.d, L w.gap 2 Iv.d, I w.fin, I (-1), I (ofR w (-1) 0 i frm to).snd.snd])), nl := 4, hw := fun _ => none, nt := 1, vw := fun _ => none : Heap } (hM w (-1) 0))), ([1, 1, 1, 0], 6, Ans.eff (ren (rnm [4] 5) (rnm [] 1) (.tup [L (ofR w (-1) 0 k frm to).fst 3 Sp.d, I (ofR w (-1) 0 k frm to).snd.fst])) (frameH [4] [] { box := upd (upd (fun _ => none) 0 (some (Row.lit [L w.sig 3 Sig.d, L w.gap 2 Iv.d, I w.fin, I (-1), I (ofR w (-1) 0 i frm to).snd.snd]))) 4 (some (Row.lit [L w.sig 3 Sig.d, L w.gap 2 Iv.d, I w.fin, I (-1), I 0])), nl := 5, hw := fun _ => none, nt := 1, vw := fun _ => none : Heap } (hMn w (-1) (ofR w (-1) 0 k frm to).snd.snd)))]
theorem nRwb (w : Wv) (i k frm to : Int) (K : D → Prop) : runS (En Try.f5) (fi Try.f5 K) (nRwbs w i k frm to) lvRwb 200 [.code [1, 1, 0], .code [1, 1, 1]] ⟨[(1, I i), (2, I k), (3, I frm), (4, I to), (5, .own [L w.sig 3 Sig.d, L w.gap 2 Iv.d, I w.fin])], .empty⟩ =
  (Does PP 12 [.agg [L w.sig 3 Sig.d, L w.gap 2 Iv.d, I w.fin]] Heap.empty (D.bp 0 0) (hM w (-1) 0) ∧
  Does PP 11 [D.iface 32 (D.bp 0 0), I i, I frm, I to] { box := upd (fun _ => none) 0 (some (Row.lit [L w.sig 3 Sig.d, L w.gap 2 Iv.d, I w.fin, I (-1), I 0])), nl := 1, hw := fun _ => none, nt := 0, vw := fun _ => none : Heap } (.tup [L (ofR w (-1) 0 i frm to).fst 3 Sp.d, I (ofR w (-1) 0 i frm to).snd.fst]) (hMn w (-1) (ofR w (-1) 0 i frm to).snd.snd) ∧
    Does PP 12 [.agg [L w.sig 3 Sig.d, L w.gap 2 Iv.d, I w.fin]] { box := upd (fun _ => none) 0 (some (Row.lit [L w.sig 3 Sig.d, L w.gap 2 Iv.d, I w.fin, I (-1), I (ofR w (-1) 0 i frm to).snd.snd])), nl := 4, hw := fun _ => none, nt := 1, vw := fun _ => none : Heap } (ren (rnm [] 4) (rnm [] 1) (D.bp 0 0)) (frameH [] [] { box := upd (fun _ => none) 0 (some (Row.lit [L w.sig 3 Sig.d, L w.gap 2 Iv.d, I w.fin, I (-1), I (ofR w (-1) 0 i frm to).snd.snd])), nl := 4, hw := fun _ => none, nt := 1, vw := fun _ => none : Heap } (hM w (-1) 0)) ∧
      Does PP 11 [D.iface 32 (D.bp 4 0), I k, I frm, I to] { box := upd (upd (fun _ => none) 0 (some (Row.lit [L w.sig 3 Sig.d, L w.gap 2 Iv.d, I w.fin, I (-1), I (ofR w (-1) 0 i frm to).snd.snd]))) 4 (some (Row.lit [L w.sig 3 Sig.d, L w.gap 2 Iv.d, I w.fin, I (-1), I 0])), nl := 5, hw := fun _ => none, nt := 1, vw := fun _ => none : Heap } (ren (rnm [4] 5) (rnm [] 1) (.tup [L (ofR w (-1) 0 k frm to).fst 3 Sp.d, I (ofR w (-1) 0 k frm to).snd.fst])) (frameH [4] [] { box := upd (upd (fun _ => none) 0 (some (Row.lit [L w.sig 3 Sig.d, L w.gap 2 Iv.d, I w.fin, I (-1), I (ofR w (-1) 0 i frm to).snd.snd]))) 4 (some (Row.lit [L w.sig 3 Sig.d, L w.gap 2 Iv.d, I w.fin, I (-1), I 0])), nl := 5, hw := fun _ => none, nt := 1, vw := fun _ => none : Heap } (hMn w (-1) (ofR w (-1) 0 k frm to).snd.snd)) ∧
        At (En Try.f5) (fi Try.f5 K) [It.code [1, 1, 1, 1, 0], It.code [1, 1, 1, 1, 1]] { sl := [(1, I i), (2, I k), (3, I frm), (4, I to), (5, .own [L w.sig 3 Sig.d, L w.gap 2 Iv.d, I w.fin]), (11, L (ofR w (-1) 0 i frm to).fst 3 Sp.d), (12, I (ofR w (-1) 0 i frm to).snd.fst), (13, L (ofR w (-1) 0 k frm to).fst 3 Sp.d), (14, I (ofR w (-1) 0 k frm to).snd.fst)], h := { box := upd (upd (upd (upd (upd (upd (fun _ => none) 0 (some (Row.lit [L w.sig 3 Sig.d, L w.gap 2 Iv.d, I w.fin, I (-1), I (ofR w (-1) 0 i frm to).snd.snd]))) 4 (some (Row.lit [L w.sig 3 Sig.d, L w.gap 2 Iv.d, I w.fin, I (-1), I 0]))) 4 (some (Row.lit [L w.sig 3 Sig.d, L w.gap 2 Iv.d, I w.fin, I (-1), I (ofR w (-1) 0 k frm to).snd.snd]))) 5 none) 6 none) 7 none, nl := 8, hw := upd (fun _ => none) 1 none, nt := 2, vw := upd (fun _ => none) 1 none : Heap } : St }) := by kernel_rfl
noncomputable def nRwcs (a : List Sp) (b : List Sp) : List Nat → Nat → Option Ans := scrAt [([1, 1, 1, 1, 0], 3, Ans.pure [L [a, b] 1 LLd] (.tup [L (zipR a b) 3 Rw.d, I 0]))]
theorem nRwc (w : Wv) (i k frm to : Int) (a b : List Sp) (h : Heap) (K : D → Prop) : runS (En Try.f5) (fi Try.f5 K) (nRwcs a b) lvRc 200 [.code [1, 1, 1, 1, 0], .code [1, 1, 1, 1, 1]] ⟨[(1, I i), (2, I k), (3, I frm), (4, I to), (5, .own [L w.sig 3 Sig.d, L w.gap 2 Iv.d, I w.fin]), (11, L a 3 Sp.d), (12, I 0), (13, L b 3 Sp.d), (14, I 0)], h⟩ =
  (PureW PP 15 [.list 2 1 (litG [L a 3 Sp.d, L b 3 Sp.d]) .full] [L [a, b] 1 LLd] (.tup [L (zipR a b) 3 Rw.d, I 0]) ∧ ((true = true → (zipR a b).length ≤ lenM) → ((!(↑(zipR a b).length : Int) == 0) = true → (0 : Int) ≤ 0 ∧ 0 < (↑(zipR a b).length : Int)) ∧ (((!bif (↑(zipR a b).length : Int) == 0 then true else ((zipR a b).getD 0 default).frm != frm) = true → (zipR a b).length ≤ lenM) → ((!bif (↑(zipR a b).length : Int) == 0 then true else ((zipR a b).getD 0 default).frm != frm) = true → 0 ≤ subI .i64 (↑(zipR a b).length : Int) 1 ∧ subI .i64 (↑(zipR a b).length : Int) 1 < (↑(zipR a b).length : Int)) ∧ bif bif bif (↑(zipR a b).length : Int) == 0 then true else ((zipR a b).getD 0 default).frm != frm then true else ((zipR a b).getD (subI .i64 (↑(zipR a b).length : Int) 1).toNat default).to != to then K (B false) else (zipR a b).length ≤ lenM → At (En Try.f5) (fi Try.f5 K) [It.code [1, 1, 1, 1, 1, 1, 0, 1, 0], It.blk 0, It.code [1, 1, 1, 1, 1, 1, 1]] { sl := [(1, I i), (2, I k), (5, .own [L w.sig 3 Sig.d, L w.gap 2 Iv.d, I w.fin]), (15, L (zipR a b) 3 Rw.d), (141, L (zipR a b) 3 Rw.d), (142, I (↑(zipR a b).length : Int)), (143, I 0)], h := h : St }))) := by kernel_rfl
def SRw (w : Wv) (i k : Int) (rs : List Rw) (n : Int) (h : Heap) : St := ⟨[(1, I i), (2, I k), (5, .own [L w.sig 3 Sig.d, L w.gap 2 Iv.d, I w.fin]), (15, L rs 3 Rw.d), (141, L rs 3 Rw.d), (142, I rs.length), (143, I n)], h⟩
noncomputable def nRwds  : List Nat → Nat → Option Ans := scrAt [([1, 1, 1, 1, 1, 1, 1, 0], 0, Ans.pure [] (B true))]
theorem nRwd (w : Wv) (i k : Int) (rs : List Rw) (n : Int) (h : Heap) (J : St → Prop) (K : D → Prop) : runS (En Try.f5) (fi Try.f5 K) (nRwds ) lvRd 200 [.code [1, 1, 1, 1, 1, 1, 0, 1, 0, 0], stp [1, 2, 5, 15, 141, 142, 143] J, .blk 0, .code [1, 1, 1, 1, 1, 1, 1]] (SRw w i k rs n h) =
  (bif decide (n < (↑rs.length : Int)) then (0 ≤ n ∧ n < (↑rs.length : Int)) ∧ True ∧ At (En Try.f5) (fi Try.f5 K) [It.code [1, 1, 1, 1, 1, 1, 0, 1, 0, 0, 1, 1, 0, 0, 1, 0], It.code [1, 1, 1, 1, 1, 1, 0, 1, 0, 0, 1, 1, 0, 0, 1, 1], It.blk 1, It.code [1, 1, 1, 1, 1, 1, 0, 1, 0, 0, 1, 1, 1], stp [1, 2, 5, 15, 141, 142, 143] J, It.blk 0, It.code [1, 1, 1, 1, 1, 1, 1]] { sl := [(1, I i), (2, I k), (5, .own [L w.sig 3 Sig.d, L w.gap 2 Iv.d, I w.fin]), (15, L rs 3 Rw.d), (17, I n), (18, .own [I (rs.getD n.toNat default).frm, I (rs.getD n.toNat default).to, L (rs.getD n.toNat default).vals 1 .str]), (141, L rs 3 Rw.d), (142, I (↑rs.length : Int)), (143, I n)], h := h : St } else PureW PP 10 [] [] (B true) ∧ K (B true)) := by kernel_rfl
def lvRe : List (List Nat × List Nat) := [([1, 1, 1, 1, 1, 1, 0, 1, 0, 0, 1, 1, 0, 0, 1, 1, 0], [1, 2, 5, 15, 18, 141, 142, 143])]
def lvRf : List (List Nat × List Nat) := [([1, 1, 1, 1, 1, 1, 0, 1, 0, 0, 1, 1, 0, 0, 1, 1, 1, 0], [1, 2, 5, 15, 18, 141, 142, 143, 209, 210, 211])]
noncomputable def nRwes  : List Nat → Nat → Option Ans := scrAt []
theorem nRwe (w : Wv) (i k : Int) (rs : List Rw) (n : Int) (x : Rw) (h : Heap) (J : St → Prop) (K : D → Prop) : runS (En Try.f5) (fi Try.f5 K) (nRwes ) lvRe 200 [.code [1, 1, 1, 1, 1, 1, 0, 1, 0, 0, 1, 1, 0, 0, 1, 0], .code [1, 1, 1, 1, 1, 1, 0, 1, 0, 0, 1, 1, 0, 0, 1, 1], .blk 1, .code [1, 1, 1, 1, 1, 1, 0, 1, 0, 0, 1, 1, 1], stp [1, 2, 5, 15, 141, 142, 143] J, .blk 0, .code [1, 1, 1, 1, 1, 1, 1]] ⟨[(1, I i), (2, I k), (5, .own [L w.sig 3 Sig.d, L w.gap 2 Iv.d, I w.fin]), (15, L rs 3 Rw.d), (17, I n), (18, .own [I x.frm, I x.to, L x.vals 1 .str]), (141, L rs 3 Rw.d), (142, I rs.length), (143, I n)], h⟩ =
  (x.vals.length ≤ lenM →
  (((!bif (↑x.vals.length : Int) != 2 then true else decide (x.frm > x.to)) && decide (n > 0)) = true → 0 ≤ subI .i64 n 1 ∧ subI .i64 n 1 < (↑rs.length : Int)) ∧
    (((!bif (↑x.vals.length : Int) != 2 then true else decide (x.frm > x.to)) && decide (n > 0) && !addI .i64 (rs.getD (subI .i64 n 1).toNat default).to 1 != x.frm) = true → 0 ≤ subI .i64 n 1 ∧ subI .i64 n 1 < (↑rs.length : Int)) ∧
      (((!bif (↑x.vals.length : Int) != 2 then true else decide (x.frm > x.to)) && decide (n > 0) && !addI .i64 (rs.getD (subI .i64 n 1).toNat default).to 1 != x.frm) = true → (0 : Int) ≤ 0 ∧ 0 < (↑(rs.getD (subI .i64 n 1).toNat default).vals.length : Int)) ∧
        (((!bif (↑x.vals.length : Int) != 2 then true else decide (x.frm > x.to)) && decide (n > 0) && !addI .i64 (rs.getD (subI .i64 n 1).toNat default).to 1 != x.frm) = true → (0 : Int) ≤ 0 ∧ 0 < (↑x.vals.length : Int)) ∧
          (((!bif (↑x.vals.length : Int) != 2 then true else decide (x.frm > x.to)) && decide (n > 0) && !addI .i64 (rs.getD (subI .i64 n 1).toNat default).to 1 != x.frm && (rs.getD (subI .i64 n 1).toNat default).vals.getD 0 default == x.vals.getD 0 default) = true → 0 ≤ subI .i64 n 1 ∧ subI .i64 n 1 < (↑rs.length : Int)) ∧
            (((!bif (↑x.vals.length : Int) != 2 then true else decide (x.frm > x.to)) && decide (n > 0) && !addI .i64 (rs.getD (subI .i64 n 1).toNat default).to 1 != x.frm && (rs.getD (subI .i64 n 1).toNat default).vals.getD 0 default == x.vals.getD 0 default) = true → (0 : Int) ≤ 1 ∧ 1 < (↑(rs.getD (subI .i64 n 1).toNat default).vals.length : Int)) ∧ (((!bif (↑x.vals.length : Int) != 2 then true else decide (x.frm > x.to)) && decide (n > 0) && !addI .i64 (rs.getD (subI .i64 n 1).toNat default).to 1 != x.frm && (rs.getD (subI .i64 n 1).toNat default).vals.getD 0 default == x.vals.getD 0 default) = true → (0 : Int) ≤ 1 ∧ 1 < (↑x.vals.length : Int)) ∧ bif bif bif (↑x.vals.length : Int) != 2 then true else decide (x.frm > x.to) then true else bif decide (n > 0) then bif addI .i64 (rs.getD (subI .i64 n 1).toNat default).to 1 != x.frm then true else bif (rs.getD (subI .i64 n 1).toNat default).vals.getD 0 default == x.vals.getD 0 default then (rs.getD (subI .i64 n 1).toNat default).vals.getD 1 default == x.vals.getD 1 default else false else false then K (B false) else At (En Try.f5) (fi Try.f5 K) [It.code [1, 1, 1, 1, 1, 1, 0, 1, 0, 0, 1, 1, 0, 0, 1, 1, 0], It.code [1, 1, 1, 1, 1, 1, 0, 1, 0, 0, 1, 1, 0, 0, 1, 1, 1], It.blk 1, It.code [1, 1, 1, 1, 1, 1, 0, 1, 0, 0, 1, 1, 1], stp [1, 2, 5, 15, 141, 142, 143] J, It.blk 0, It.code [1, 1, 1, 1, 1, 1, 1]] { sl := [(1, I i), (2, I k), (5, .own [L w.sig 3 Sig.d, L w.gap 2 Iv.d, I w.fin]), (15, L rs 3 Rw.d), (18, .own [I x.frm, I x.to, L x.vals 1 .str]), (141, L rs 3 Rw.d), (142, I (↑rs.length : Int)), (143, I n)], h := h : St }) := by kernel_rfl
noncomputable def nRwfs  : List Nat → Nat → Option Ans := scrAt []
theorem nRwf (w : Wv) (i k : Int) (rs : List Rw) (n : Int) (x : Rw) (h : Heap) (J : St → Prop) (K : D → Prop) : runS (En Try.f5) (fi Try.f5 K) (nRwfs ) lvRf 200 [.code [1, 1, 1, 1, 1, 1, 0, 1, 0, 0, 1, 1, 0, 0, 1, 1, 0], .code [1, 1, 1, 1, 1, 1, 0, 1, 0, 0, 1, 1, 0, 0, 1, 1, 1], .blk 1, .code [1, 1, 1, 1, 1, 1, 0, 1, 0, 0, 1, 1, 1], stp [1, 2, 5, 15, 141, 142, 143] J, .blk 0, .code [1, 1, 1, 1, 1, 1, 1]] ⟨[(1, I i), (2, I k), (5, .own [L w.sig 3 Sig.d, L w.gap 2 Iv.d, I w.fin]), (15, L rs 3 Rw.d), (18, .own [I x.frm, I x.to, L x.vals 1 .str]), (141, L rs 3 Rw.d), (142, I rs.length), (143, I n)], h⟩ =
  (2 ≤ lenM → At (En Try.f5) (fi Try.f5 K) [It.code [1, 1, 1, 1, 1, 1, 0, 1, 0, 0, 1, 1, 0, 0, 1, 1, 1, 0], It.blk 2, It.blk 1, It.code [1, 1, 1, 1, 1, 1, 0, 1, 0, 0, 1, 1, 1], stp [1, 2, 5, 15, 141, 142, 143] J, It.blk 0, It.code [1, 1, 1, 1, 1, 1, 1]] { sl := [(1, I i), (2, I k), (5, .own [L w.sig 3 Sig.d, L w.gap 2 Iv.d, I w.fin]), (15, L rs 3 Rw.d), (18, .own [I x.frm, I x.to, L x.vals 1 .str]), (141, L rs 3 Rw.d), (142, I (↑rs.length : Int)), (143, I n), (209, .list 2 1 (litG [I x.frm, I x.to]) .full), (210, I (↑2 : Int)), (211, I 0)], h := h : St }) := by kernel_rfl
def SRw2 (w : Wv) (i k : Int) (rs : List Rw) (n : Int) (x : Rw) (m : Int) (h : Heap) : St := ⟨[(1, I i), (2, I k), (5, .own [L w.sig 3 Sig.d, L w.gap 2 Iv.d, I w.fin]), (15, L rs 3 Rw.d), (18, .own [I x.frm, I x.to, L x.vals 1 .str]), (141, L rs 3 Rw.d), (142, I rs.length), (143, I n), (209, L [x.frm, x.to] 1 I'), (210, I 2), (211, I m)], h⟩
noncomputable def nRwgs (w : Wv) (i : Int) (k : Int) (x : Rw) (m : Int) : List Nat → Nat → Option Ans := scrAt [([1, 1, 1, 1, 1, 1, 0, 1, 0, 0, 1, 1, 0, 0, 1, 1, 1, 0, 0, 1, 1, 0, 0, 1, 0], 6, Ans.pure [(w.sig.getD i.toNat default).d, I ([x.frm, x.to].getD m.toNat default)] (.str (sigAt (w.sig.getD i.toNat default) ([x.frm, x.to].getD m.toNat default)))), ([1, 1, 1, 1, 1, 1, 0, 1, 0, 0, 1, 1, 0, 0, 1, 1, 1, 0, 0, 1, 1, 0, 0, 1, 0], 19, Ans.pure [(w.sig.getD k.toNat default).d, I ([x.frm, x.to].getD m.toNat default)] (.str (sigAt (w.sig.getD k.toNat default) ([x.frm, x.to].getD m.toNat default))))]
theorem nRwg (w : Wv) (i k : Int) (rs : List Rw) (n : Int) (x : Rw) (m : Int) (h : Heap) (J J2 : St → Prop) (K : D → Prop) : runS (En Try.f5) (fi Try.f5 K) (nRwgs w i k x m) nolv 200 [.code [1, 1, 1, 1, 1, 1, 0, 1, 0, 0, 1, 1, 0, 0, 1, 1, 1, 0, 0], stp [1, 2, 5, 15, 18, 141, 142, 143, 209, 210, 211] J, .blk 2, .blk 1, .code [1, 1, 1, 1, 1, 1, 0, 1, 0, 0, 1, 1, 1], stp [1, 2, 5, 15, 141, 142, 143] J2, .blk 0, .code [1, 1, 1, 1, 1, 1, 1]] (SRw2 w i k rs n x m h) =
  (bif decide (m < 2) then (0 ≤ m ∧ m < (↑[x.frm, x.to].length : Int)) ∧ (0 ≤ i ∧ i < (↑w.sig.length : Int)) ∧ PureW PP 16 [(w.sig.getD i.toNat default).d, I ([x.frm, x.to].getD m.toNat default)] [(w.sig.getD i.toNat default).d, I ([x.frm, x.to].getD m.toNat default)] (.str (sigAt (w.sig.getD i.toNat default) ([x.frm, x.to].getD m.toNat default))) ∧ ((0 : Int) ≤ 0 ∧ 0 < (↑x.vals.length : Int)) ∧ ((!!sigAt (w.sig.getD i.toNat default) ([x.frm, x.to].getD m.toNat default) == x.vals.getD 0 default) = true → 0 ≤ k ∧ k < (↑w.sig.length : Int)) ∧ ((!!sigAt (w.sig.getD i.toNat default) ([x.frm, x.to].getD m.toNat default) == x.vals.getD 0 default) = true → PureW PP 16 [(w.sig.getD k.toNat default).d, I ([x.frm, x.to].getD m.toNat default)] [(w.sig.getD k.toNat default).d, I ([x.frm, x.to].getD m.toNat default)] (.str (sigAt (w.sig.getD k.toNat default) ([x.frm, x.to].getD m.toNat default)))) ∧ ((!!sigAt (w.sig.getD i.toNat default) ([x.frm, x.to].getD m.toNat default) == x.vals.getD 0 default) = true → (0 : Int) ≤ 1 ∧ 1 < (↑x.vals.length : Int)) ∧ bif bif !sigAt (w.sig.getD i.toNat default) ([x.frm, x.to].getD m.toNat default) == x.vals.getD 0 default then true else !sigAt (w.sig.getD k.toNat default) ([x.frm, x.to].getD m.toNat default) == x.vals.getD 1 default then K (B false) else J { sl := [(1, I i), (2, I k), (5, .own [L w.sig 3 Sig.d, L w.gap 2 Iv.d, I w.fin]), (15, L rs 3 Rw.d), (18, .own [I x.frm, I x.to, L x.vals 1 .str]), (141, L rs 3 Rw.d), (142, I (↑rs.length : Int)), (143, I n), (209, L [x.frm, x.to] 1 I'), (210, I 2), (211, I (addI .i64 m 1))], h := h : St }
 else J2 { sl := [(1, I i), (2, I k), (5, .own [L w.sig 3 Sig.d, L w.gap 2 Iv.d, I w.fin]), (15, L rs 3 Rw.d), (141, L rs 3 Rw.d), (142, I (↑rs.length : Int)), (143, I (addI .i64 n 1))], h := h : St }) := by kernel_rfl
def hR2 : Heap := ⟨fun _ => none, 8, fun _ => none, 2, fun _ => none⟩
section
variable {w : Wv} {i k frm to : Int}
def rwG (w : Wv) (i k frm to : Int) : Bool := bif bif bif bif bif bif bif !smB w then true else decide (i < 0) then true else decide (k < 0) then true else decide (i ≥ (w.sig.length : Int)) then true else decide (k ≥ (w.sig.length : Int)) then true else decide (frm < 0) then true else decide (frm > to) then true else decide (to > w.fin)
theorem rwG_of (h : rwG w i k frm to = false) : SmOk w ∧ (0 ≤ i ∧ i < (w.sig.length : Int)) ∧ (0 ≤ k ∧ k < (w.sig.length : Int)) ∧ 0 ≤ frm ∧ frm ≤ to ∧ to ≤ w.fin := by
  unfold rwG at h
  simp only [Bool.cond_true_left, Bool.or_eq_false_iff, decide_eq_false_iff_not, Bool.not_eq_false'] at h
  obtain ⟨⟨⟨⟨⟨⟨⟨h1, h2⟩, h3⟩, h4⟩, h5⟩, h6⟩, h7⟩, h8⟩ := h
  exact ⟨smB_ok h1, by omega, by omega, by omega, by omega, by omega⟩
theorem rows_ask (h : (bif bif rwG w i k frm to then true else (w.sig.getD i.toNat default).kind == 3 then true else (w.sig.getD k.toNat default).kind == 3) = false) : SmOk w ∧ Ask w i frm to ∧ Ask w k frm to := by
  simp only [Bool.cond_true_left, Bool.or_eq_false_iff, beq_eq_false_iff_ne] at h
  obtain ⟨⟨h1, h2⟩, h3⟩ := h
  obtain ⟨g1, g2, g3, g4, g5, g6⟩ := rwG_of h1
  exact ⟨g1, ⟨g2, h2, g4, g5, g6⟩, ⟨g3, h3, g4, g5, g6⟩⟩
theorem c5 (w : Wv) (i k frm to : Int) : Pure PP 5 [w.d, I i, I k, I frm, I to] (B true) := by
  refine pu F5 (by kernel_rfl) (of_eq (nRwa w i k frm to _) ⟨PureW.mk (c9 _), fun _ _ => ⟨fun hx => ?_, fun hx => ?_, cond_intro (fun _ => ⟨PureW.mk c10, Wk.refl _⟩) fun h => ?_⟩⟩)
  · have hx : (!rwG w i k frm to) = true := hx
    exact (rwG_of (by simpa using hx)).2.1
  · have hx : (!bif rwG w i k frm to then true else (w.sig.getD i.toNat default).kind == 3) = true := hx
    simp only [Bool.cond_true_left, Bool.not_eq_true', Bool.or_eq_false_iff] at hx
    exact (rwG_of hx.1).2.2.1
  obtain ⟨hw, hai, hak⟩ := rows_ask h
  obtain ⟨_, qi, _⟩ := hw.at hai.hsig
  obtain ⟨_, qk, _⟩ := hw.at hak.hsig
  have hOi := (ofR_ask hw (lim := -1) hai).1 (.inl (by omega))
  have hOk := (ofR_ask hw (lim := -1) hak).1 (.inl (by omega))
  have hKi := ofOk hw hai
  have hKk := ofOk hw hak
  refine runS_sound hmix _ _ _ (of_eq (nRwb w i k frm to _) ⟨e12 w, e11 hw.of 0, fr (e12 w) [] [], fr (e11 hw.of 0) [4] [], ?_⟩)
  rw [hOi, hOk]
  simp only
  generalize codeL (sigAt (sigOf w i) frm) (cut (sigOf w i).chg frm to) frm to = a at hKi ⊢
  generalize codeL (sigAt (sigOf w k) frm) (cut (sigOf w k).chg frm to) frm to = b at hKk ⊢
  obtain ⟨hz, hr⟩ := zipR_ok hKi hKk hai.hfrm hai.hle
  have hla := hKi.len
  have hlb := hKk.len
  refine at_le (st' := ⟨[(1, I i), (2, I k), (3, I frm), (4, I to), (5, .own [L w.sig 3 Sig.d, L w.gap 2 Iv.d, I w.fin]), (11, L a 3 Sp.d), (12, I 0), (13, L b 3 Sp.d), (14, I 0)], hR2⟩) ?_ (StLe.heapLe ⟨fun l row' e => (by cases e), Nat.le_refl _, fun t n e => (by cases e), Nat.le_refl _, fun t n e => (by cases e), fun _ _ => rfl⟩)
  refine runS_sound hmix _ _ _ (of_eq (nRwc w i k frm to a b hR2 _) ⟨⟨Wks.cons (Wk.litL rfl rfl) (Wks.refl _), c15 _ _ hz (by omega) (by omega)⟩, ?_⟩)
  generalize zipR a b = rs at hr ⊢
  have hne : rs ≠ [] := by
    intro e; subst e
    have : frm = to + 1 := hr
    have := hai.hle
    omega
  have h0 : 0 < rs.length := List.length_pos_iff.2 hne
  have hz0 : ((rs.length : Int) == 0) = false := by rw [beq_eq_false_iff_ne]; omega
  have hf : (rs.getD 0 default).frm = frm := by
    cases rs with
    | nil => exact absurd rfl hne
    | cons x r => exact hr.1
  have hlast := hr.last hne
  refine fun hl => ?_
  have hl := hl rfl
  rw [lastI h0 hl, Int.toNat_natCast, hlast, hz0, hf]
  simp only [bne_self_eq_false, cond_false]
  refine ⟨fun _ => ⟨by omega, by omega⟩, fun _ => ⟨fun _ => ⟨by omega, by omega⟩, fun _ => ?_⟩⟩
  have hfr := hai.hfrm
  refine lp (fn := Try.f5) (fun n : Nat => n ≤ rs.length ∧ ∃ f p, RowsOk (atL a) (atL b) to f p (rs.drop n) ∧ frm ≤ f ∧ (0 < n → ∃ u v, (rs.getD (n - 1) default).vals = [u, v] ∧ p = some (u, v) ∧ f = (rs.getD (n - 1) default).to + 1)) (fun n => SRw w i k rs n hR2) (fun n => rs.length - n) [1, 2, 5, 15, 141, 142, 143] (by kernel_rfl) (fun n hn => of_eq (nRwd w i k rs n hR2 _ _) ?_) 0 ⟨Nat.zero_le _, frm, none, hr, Int.le_refl _, fun h => absurd h (Nat.lt_irrefl 0)⟩
  obtain ⟨_, f, p, ho, hff, hprev⟩ := hn
  refine cond_intro (fun hlt => ?_) fun _ => ⟨PureW.mk c10, Wk.refl _⟩
  have hlt := ltI hlt
  rw [Int.toNat_natCast]
  rw [drop_cons _ _ hlt] at ho
  generalize hxe : rs.getD n default = x at ho ⊢
  obtain ⟨o1, o2, o3, o4, o5, o6, o7, o8⟩ := ho
  refine ⟨⟨by omega, by omega⟩, trivial, ?_⟩
  have hn1 : 0 < n → subI .i64 (n : Int) 1 = ((n - 1 : Nat) : Int) := fun hn0 => lastI hn0 (by omega)
  have hM : to ≤ 1099511627776 := by have := (hKi.vl.last hKi.ne).2; rw [hKi.last] at this; exact this
  have hv2 : ((x.vals.length : Int) != 2) = false := by rw [o4]; rfl
  have hc1 : decide (x.frm > x.to) = false := decide_eq_false (by omega)
  refine runS_sound hmix _ _ _ (of_eq (nRwe w i k rs n x hR2 _ _) ?_)
  rw [hv2, hc1]
  simp only [cond_false, Bool.not_false, Bool.true_and]
  have hadd : 0 < n → addI .i64 (rs.getD (n - 1) default).to 1 = x.frm := fun hn0 => by
    obtain ⟨u, v, _, _, e⟩ := hprev hn0
    rw [add64 (by omega) (by omega)]; omega
  have hcond : (bif decide ((n : Int) > 0) then bif addI .i64 (rs.getD (subI .i64 (n : Int) 1).toNat default).to 1 != x.frm then true else bif (rs.getD (subI .i64 (n : Int) 1).toNat default).vals.getD 0 default == x.vals.getD 0 default then (rs.getD (subI .i64 (n : Int) 1).toNat default).vals.getD 1 default == x.vals.getD 1 default else false else false) = false := by
    cases hd : decide ((n : Int) > 0) with
    | false => rfl
    | true =>
      have hn0 : 0 < n := by have : (n : Int) > 0 := of_decide_eq_true hd; omega
      rw [hn1 hn0, Int.toNat_natCast, hadd hn0]
      obtain ⟨u, v, e1, e2, _⟩ := hprev hn0
      rw [e1, o4]
      simp only [bne_self_eq_false, cond_true, cond_false]
      show (bif u == atL a f then v == atL b f else false) = false
      cases hu : u == atL a f with
      | false => rfl
      | true =>
        have hu : u = atL a f := by simpa using hu
        have : ¬ v = atL b f := fun hv => o7 (by rw [e2, hu, hv])
        simpa using this
  have hvl : (x.vals.length : Int) = 2 := by rw [o4]; rfl
  have hin : decide ((n : Int) > 0) = true → 0 ≤ subI .i64 (n : Int) 1 ∧ subI .i64 (n : Int) 1 < (rs.length : Int) := fun hd => by
    have hn0 : 0 < n := by have : (n : Int) > 0 := of_decide_eq_true hd; omega
    rw [hn1 hn0]; omega
  have hpl : decide ((n : Int) > 0) = true → ((rs.getD (subI .i64 (n : Int) 1).toNat default).vals.length : Int) = 2 := fun hd => by
    have hn0 : 0 < n := by have : (n : Int) > 0 := of_decide_eq_true hd; omega
    obtain ⟨u, v, e1, _, _⟩ := hprev hn0
    rw [hn1 hn0, Int.toNat_natCast, e1]; rfl
  rw [hcond]
  refine fun _ => ⟨fun h => hin (by simpa using h), fun h => hin (by simp only [Bool.and_eq_true] at h; exact h.1), fun h => ?_, fun h => ⟨by omega, by omega⟩, fun h => hin (by simp only [Bool.and_eq_true] at h; exact h.1.1), fun h => ?_, fun h => ⟨by omega, by omega⟩, ?_⟩
  · rw [hpl (by simp only [Bool.and_eq_true] at h; exact h.1)]; exact ⟨by omega, by omega⟩
  · rw [hpl (by simp only [Bool.and_eq_true] at h; exact h.1.1)]; exact ⟨by omega, by omega⟩
  simp only [cond_false]
  refine runS_sound hmix _ _ _ (of_eq (nRwf w i k rs n x hR2 _ _) fun _ => ?_)
  refine at_le (st' := SRw2 w i k rs n x (0 : Nat) hR2) ?_ ((StLe.set 209 rfl (Wk.litL (l := [x.frm, x.to]) (enc := I') (sz := 1) rfl rfl) rfl rfl).cast rfl)
  refine lp (fn := Try.f5) (fun m : Nat => m ≤ 2) (fun m => SRw2 w i k rs n x m hR2) (fun m => 2 - m) [1, 2, 5, 15, 18, 141, 142, 143, 209, 210, 211] (by kernel_rfl) (fun m hm => of_eq (nRwg w i k rs n x m hR2 _ _ _) ?_) 0 (by omega)
  refine cond_intro (fun hlt2 => ?_) fun hge2 => ?_
  · have hlt2 : m < 2 := by have : (m : Int) < 2 := of_decide_eq_true hlt2; omega
    have ha1 : addI .i64 (m : Int) 1 = ((m + 1 : Nat) : Int) := by rw [add64 (by omega) (by omega)]; rfl
    rw [ha1, Int.toNat_natCast]
    have hsi : w.sig.getD i.toNat default = sigOf w i := rfl
    have hsk : w.sig.getD k.toNat default = sigOf w k := rfl
    rw [hsi, hsk]
    have hg : ∀ t, t = [x.frm, x.to].getD m default → sigAt (sigOf w i) t = x.vals.getD 0 default ∧ sigAt (sigOf w k) t = x.vals.getD 1 default := fun t e => by
      rw [o4]
      have ht : t = f ∨ t = x.to := by
        rcases m with _ | _ | m
        · exact .inl (by rw [e]; exact o1)
        · exact .inr e
        · omega
      rcases ht with rfl | rfl
      · rw [← hKi.at_ t hff (by omega), ← hKk.at_ t hff (by omega)]
        exact ⟨rfl, rfl⟩
      · rw [← hKi.at_ _ (by omega) o3, ← hKk.at_ _ (by omega) o3, o5, o6]
        exact ⟨rfl, rfl⟩
    generalize ht : [x.frm, x.to].getD m default = t at hg ⊢
    obtain ⟨g1, g2⟩ := hg t rfl
    rw [g1, g2]
    simp only [beq_self_eq_true, Bool.not_true, cond_false]
    have hml : (([x.frm, x.to].length : Nat) : Int) = 2 := rfl
    rw [hml]
    exact ⟨⟨by omega, by omega⟩, hai.hsig, by rw [← g1]; exact PureW.mk (c16 _ _ (by omega)), ⟨by omega, by omega⟩, fun _ => hak.hsig, fun _ => by rw [← g2]; exact PureW.mk (c16 _ _ (by omega)), fun _ => ⟨by omega, by omega⟩, Nx.mk (m + 1) (by omega) (by omega)⟩
  · rw [add1 hlt hl]
    refine Nx.mk (n + 1) ⟨hlt, x.to + 1, some (atL a f, atL b f), o8, by omega, fun _ => ⟨atL a f, atL b f, ?_, rfl, ?_⟩⟩ (by omega)
    · rw [Nat.add_sub_cancel, hxe]; exact o4
    · rw [Nat.add_sub_cancel, hxe]
end
end Go.Proofs.Ytjajmmdnplgjmaa.S1
