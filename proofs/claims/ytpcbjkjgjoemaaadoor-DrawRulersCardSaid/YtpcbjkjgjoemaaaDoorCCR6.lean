/- Lines: the code's Line. -/
import Derived.Test.YtpcbjkjgjoemaaaDoorCCR5
import Derived.Lib.ItoaLen
namespace Go.Proofs.YtpcbjkjgjoemaaaDoor.S1
open Go Go.Ab Go.Proofs
theorem busS_len (tx : Str → Str) (v : Str) (c : List Chg) (stp fin : Int) : ∀ (K : Nat) (a : Int) (i q : Nat), (busS tx v c stp fin K a i q).length = q + nCol stp fin K a
  | 0, _, _, _ => by rw [busS, flS_len, nCol, Nat.add_zero]
  | K + 1, a, i, q => by
    rw [busS, nCol]
    by_cases h : a > fin
    · rw [if_pos h, if_pos h, flS_len, Nat.add_zero]
    · rw [if_neg h, if_neg h]
      split
      · rw [busS_len tx v c stp fin K]; omega
      · rw [List.length_append, flS_len, List.length_cons, busS_len tx v c stp fin K]; omega
/-- The columns that are not empty. -/
def lineC (q : Sig) (a stp cols fin base : Int) : Str :=
  if q.kind = 3 then evS (inR q.chg a (lastC a stp cols fin)) stp fin cols.toNat a
  else if q.kind = 0 ∧ q.width = 1 then bitS (sigAt q a) (cut q.chg a (lastC a stp cols fin)) stp fin cols.toNat a
  else busS (txF q.kind base) (sigAt q a) (cut q.chg a (lastC a stp cols fin)) stp fin cols.toNat a 0 0
theorem lineC_len (q : Sig) (a stp cols fin base : Int) : (lineC q a stp cols fin base).length = nCol stp fin cols.toNat a := by
  unfold lineC
  split
  · exact colS_len _ _ _ _ _
  · split
    · exact colS_len _ _ _ _ _
    · rw [busS_len, Nat.zero_add]
def lineS (q : Sig) (a stp cols fin base : Int) : Str := lineC q a stp cols fin base ++ blk (cols.toNat - (lineC q a stp cols fin base).length)
theorem callM (w : Wv) (c sig : Int) : callR w (-1) c sig = if 0 ≤ sig ∧ sig < (w.sig.length : Int) then 0 else 2 := by
  unfold callR
  rw [show decide ((-1 : Int) ≥ 0) = false from rfl]
  simp only [cond_false]
  by_cases h1 : sig < 0
  · rw [decide_eq_true h1, if_neg (by omega)]; rfl
  · rw [decide_eq_false h1]
    by_cases h2 : sig ≥ (w.sig.length : Int)
    · rw [decide_eq_true h2, if_neg (by omega)]; rfl
    · rw [decide_eq_false h2, if_pos (by omega)]; rfl
/-- What Line answers. -/
def lnR (w : Wv) (l : Ln) (a stp cols : Int) : Str × Int :=
  if chkR w [l] a stp cols ≠ 0 then ([], chkR w [l] a stp cols)
  else if 0 ≤ l.sig ∧ l.sig < (w.sig.length : Int) then (lineS (sigOf w l.sig) a stp cols w.fin l.base, 0) else ([], 2)
/-- How many calls of the source. -/
def lnN (w : Wv) (l : Ln) (a stp cols c : Int) : Int :=
  if chkR w [l] a stp cols ≠ 0 then c
  else if 0 ≤ l.sig ∧ l.sig < (w.sig.length : Int) then (if (sigOf w l.sig).kind = 3 then c + 2 else c + 1 + ofN w l.sig a (lastC a stp cols w.fin)) else c + 1
theorem chkR_ok {w : Wv} {l : Ln} {a stp cols : Int} (h : chkR w [l] a stp cols = 0) : szB stp cols = true ∧ (1 ≤ stp ∧ stp ≤ 1099511627776) ∧ (1 ≤ cols ∧ cols ≤ 200) ∧ lnB l = true ∧ 0 ≤ a ∧ a ≤ w.fin := by
  unfold chkR at h
  by_cases h1 : szB stp cols = false ∨ [l].length > 64
  · rw [if_pos h1] at h; cases h
  rw [if_neg h1] at h
  have h2 : szB stp cols = true := by
    cases hb : szB stp cols with
    | true => rfl
    | false => exact absurd (.inl hb) h1
  by_cases h3 : [l].all lnB = false
  · rw [if_pos h3] at h; cases h
  rw [if_neg h3] at h
  by_cases h4 : a < 0 ∨ a > w.fin
  · rw [if_pos h4] at h; cases h
  have h5 : 1 ≤ stp ∧ stp ≤ 1099511627776 ∧ 1 ≤ cols ∧ cols ≤ 200 := by unfold szB at h2; exact of_decide_eq_true h2
  refine ⟨h2, ⟨h5.1, h5.2.1⟩, h5.2.2, ?_, by omega, by omega⟩
  simpa using h3
theorem lastC_ge {a stp cols fin : Int} (h1 : 1 ≤ stp) (h2 : 1 ≤ cols) (h3 : a ≤ fin) : a ≤ lastC a stp cols fin ∧ lastC a stp cols fin ≤ fin := by
  have := Int.mul_le_mul (a := 1) (b := 1) (c := cols) (d := stp) h2 h1 (by omega) (by omega)
  unfold lastC
  constructor <;> omega
theorem decR_len (q : Str) (h : q.all bit01 = true) : (decR q).length ≤ q.length + 1 := by
  unfold decR
  rw [txtR_len]
  have := (digR_ok q [0] h (fun b hb => by simp at hb; subst hb; decide)).2
  simp at this
  omega
theorem txF_len (k base : Int) (v : Str) (h : v.length ≤ 1000) : (txF k base v).length ≤ 1000000 := by
  unfold txF
  split
  · have := numR_len v base decR_len; omega
  · split
    · omega
    · rw [List.length_map]; omega
/-- The blanks behind the columns. -/
theorem tailR [Lay] {T : Str} {cols : Int} (h : (T.length : Int) ≤ cols) (hc : cols ≤ 200) :
    PureW PP 39 [.str { data := #[32] : ByteArray }.data.toList, I (subI .i64 cols (T.length : Int))] [.str { data := #[32] : ByteArray }.data.toList, I (subI .i64 cols (T.length : Int))] (.str (Lib.repeatL { data := #[32] : ByteArray }.data.toList (subI .i64 cols (T.length : Int)).toNat)) ∧
    T.length + (Lib.repeatL { data := #[32] : ByteArray }.data.toList (subI .i64 cols (T.length : Int)).toNat).length ≤ strM ∧
    T ++ Lib.repeatL { data := #[32] : ByteArray }.data.toList (subI .i64 cols (T.length : Int)).toNat = T ++ blk (cols.toNat - T.length) := by
  have e : ({ data := #[32] : ByteArray }.data.toList : Str) = [32] := rfl
  have hs : subI .i64 cols (T.length : Int) = cols - T.length := sub64 (by omega) (by omega)
  rw [e, hs, repL_blk]
  refine ⟨PureW.mk ?_, ?_, ?_⟩
  · have := cRepZ [32] (cols - T.length) ⟨by omega, by omega⟩ (by simp; omega)
    rw [repL_blk] at this
    exact this
  · unfold blk strM; rw [List.length_replicate]; omega
  · rw [show (cols - (T.length : Int)).toNat = cols.toNat - T.length by omega]
theorem e11 [Lay] (w : Wv) (hw : SmD w) (c : Int) (hc : 0 ≤ c ∧ c ≤ 800000) (l : Ln) (a stp cols : Int) : Does PP 11 [.iface 36 (.bp 0 0), l.d, I a, I stp, I cols] (hM w (-1) c) (.tup [.str (lnR w l a stp cols).1, I (lnR w l a stp cols).2]) (hM w (-1) (lnN w l a stp cols c)) := by
  have e1 : addI .i64 c 1 = c + 1 := add64 (by omega) (by omega)
  have e2 : addI .i64 (c + 1) 1 = c + 2 := by rw [add64 (by omega) (by omega)]; omega
  refine du F11 (by kernel_rfl) (of_eq (nDL1 w (-1) c l a stp cols _) ⟨echk1 _ _ _ _ _ _ _ _ _, cond_intro (fun h => ?_) fun h => ⟨e123 w (-1) c l.sig, trivial, ?_⟩⟩)
  · have h : chkR w [l] a stp cols ≠ 0 := by simpa using h
    unfold lnR lnN
    rw [if_pos h, if_pos h]; exact RetLe.refl _ _
  have h : chkR w [l] a stp cols = 0 := by simpa using h
  obtain ⟨hz, hs1, hs2, hlb, ha0, ha1⟩ := chkR_ok h
  have hR : lnR w l a stp cols = if 0 ≤ l.sig ∧ l.sig < (w.sig.length : Int) then (lineS (sigOf w l.sig) a stp cols w.fin l.base, 0) else ([], 2) := by
    unfold lnR; rw [if_neg (by omega)]
  have hN : lnN w l a stp cols c = if 0 ≤ l.sig ∧ l.sig < (w.sig.length : Int) then (if (sigOf w l.sig).kind = 3 then c + 2 else c + 1 + ofN w l.sig a (lastC a stp cols w.fin)) else c + 1 := by
    unfold lnN; rw [if_neg (by omega)]
  rw [hR, hN, e1]
  have hk : kindR w (-1) c l.sig = if 0 ≤ l.sig ∧ l.sig < (w.sig.length : Int) then ((sigOf w l.sig).kind, (sigOf w l.sig).width, 0) else (0, 0, 2) := by
    unfold kindR
    rw [callM]
    by_cases hs : 0 ≤ l.sig ∧ l.sig < (w.sig.length : Int)
    · rw [if_pos hs, if_pos hs, if_pos rfl]
    · rw [if_neg hs, if_neg hs, if_neg (by decide)]
  rw [hk]
  refine at_le (st' := ⟨[(0, memD), (2, I a), (3, I stp), (4, I cols), (6, .own [I l.sig, .str l.lab, I l.base]), (13, .own [I (if 0 ≤ l.sig ∧ l.sig < (w.sig.length : Int) then ((sigOf w l.sig).kind, (sigOf w l.sig).width, (0 : Int)) else (0, 0, 2)).1]), (14, I (if 0 ≤ l.sig ∧ l.sig < (w.sig.length : Int) then ((sigOf w l.sig).kind, (sigOf w l.sig).width, (0 : Int)) else (0, 0, 2)).2.1), (15, I (if 0 ≤ l.sig ∧ l.sig < (w.sig.length : Int) then ((sigOf w l.sig).kind, (sigOf w l.sig).width, (0 : Int)) else (0, 0, 2)).2.2)], hM w (-1) (c + 1)⟩) ?_ (StLe.heap (hp_eq (fun k => by rcases k with _ | k <;> rfl) rfl rfl))
  by_cases hs : 0 ≤ l.sig ∧ l.sig < (w.sig.length : Int)
  rotate_left
  · rw [if_neg hs, if_neg hs, if_neg hs]
    refine runS_sound hmix _ _ _ (of_eq (nDL2 w (-1) (c + 1) l a stp cols 0 0 2 _) (cond_intro (fun _ => ?_) fun h2 => by simp at h2))
    exact RetLe.refl _ _
  rw [if_pos hs, if_pos hs, if_pos hs]
  have hm := sigMem hs
  obtain ⟨hlc1, hlc2⟩ := lastC_ge (a := a) (fin := w.fin) hs1.1 hs2.1 ha1
  have hfin := hw.ok.fin
  have hLl := lineC_len (sigOf w l.sig) a stp cols w.fin l.base
  have hncl := nCol_le stp w.fin cols.toNat a
  obtain ⟨hq1, hq2, hq3⟩ := hw.ok.at hs
  refine runS_sound hmix _ _ _ (of_eq (nDL2 w (-1) (c + 1) l a stp cols (sigOf w l.sig).kind (sigOf w l.sig).width 0 _) (cond_intro (fun h2 => by simp at h2) fun _ => ⟨e122 w (-1) (c + 1), trivial, cond_intro (fun h3 => ⟨PureW.mk (clastZ a stp cols w.fin ⟨ha0, ha1, hfin.2, hz⟩), e126 w hw.ok.of (-1) (c + 1) l.sig a (lastC a stp cols w.fin), ?_⟩) fun h3 => ⟨PureW.mk (clastZ a stp cols w.fin ⟨ha0, ha1, hfin.2, hz⟩), eOfM w hw.ok.of (-1) (c + 1) l.sig a (lastC a stp cols w.fin), ?_⟩⟩))
  · have h3 : (sigOf w l.sig).kind = 3 := by simpa using h3
    have hwin : winR w (-1) (c + 1) l.sig a (lastC a stp cols w.fin) = (inR (sigOf w l.sig).chg a (lastC a stp cols w.fin), 0) := by
      unfold winR
      rw [callM, if_pos hs, if_neg (by decide), if_neg (by omega)]
    rw [hwin, e2, if_pos h3]
    refine cond_intro (fun h4 => by simp at h4) fun _ => ?_
    have hLC : lineC (sigOf w l.sig) a stp cols w.fin l.base = evS (inR (sigOf w l.sig).chg a (lastC a stp cols w.fin)) stp w.fin cols.toNat a := by
      unfold lineC; rw [if_pos h3]
    have hinc : Inc (a - 1) (inR (sigOf w l.sig).chg a (lastC a stp cols w.fin)) := by
      have := (hq3.cut3 (show a - 1 ≤ lastC a stp cols w.fin by omega)).choose_spec.choose_spec.2.2.1
      have he : inR (sigOf w l.sig).chg a (lastC a stp cols w.fin) = cut (sigOf w l.sig).chg (a - 1) (lastC a stp cols w.fin) := by
        unfold inR cut
        refine List.filter_congr fun x _ => ?_
        congr 1
        exact decide_eq_decide.2 (by omega)
      rw [he]; exact this
    have hlen : (inR (sigOf w l.sig).chg a (lastC a stp cols w.fin)).length ≤ 1000 := by
      have := List.length_filter_le (fun x : Chg => decide (x.time ≥ a) && decide (x.time ≤ lastC a stp cols w.fin)) (sigOf w l.sig).chg
      unfold inR; omega
    have hto : ∀ x ∈ inR (sigOf w l.sig).chg a (lastC a stp cols w.fin), x.time ≤ w.fin := fun x hx => by
      have := (List.mem_filter.1 hx).2
      simp at this; omega
    unfold lineS
    rw [hLC] at hLl ⊢
    obtain ⟨t1, t2, t3⟩ := tailR (T := evS (inR (sigOf w l.sig).chg a (lastC a stp cols w.fin)) stp w.fin cols.toNat a) (cols := cols) (by omega) hs2.2
    refine runS_sound hmix _ _ _ (of_eq (nDL3 w (-1) (c + 2) a stp cols w.fin _ _) ⟨PureW.mk (c33 a stp cols w.fin ⟨ha0, ha1⟩ hs1 hs2 hfin.2 _ hlen hinc hto), fun _ => ⟨t1, t2, ?_⟩⟩)
    rw [t3]; exact RetLe.refl _ _
  · have h3 : (sigOf w l.sig).kind ≠ 3 := by simpa using h3
    have hask : Ask w l.sig a (lastC a stp cols w.fin) := ⟨hs, h3, ha0, hlc1, hlc2⟩
    rw [ofR_c hw hask ⟨by omega, by omega⟩, if_neg h3]
    simp only
    refine cond_intro (fun h4 => by simp at h4) fun _ => ?_
    obtain ⟨_, _, _, _, hinc, hto, _⟩ := hq3.cut3 hlc1
    have hlen : (cut (sigOf w l.sig).chg a (lastC a stp cols w.fin)).length ≤ 900 := by
      have := List.length_filter_le (fun x : Chg => decide (x.time > a) && decide (x.time ≤ lastC a stp cols w.fin)) (sigOf w l.sig).chg
      unfold cut; omega
    have hco : ColOk a stp cols w.fin (sigAt (sigOf w l.sig) a) (cut (sigOf w l.sig).chg a (lastC a stp cols w.fin)) := ⟨⟨ha0, ha1⟩, hs1, hs2, hfin.2, hlen, hinc, hto⟩
    have hcl := hw.curLen hm a (lastC a stp cols w.fin)
    generalize hN1 : ofN w l.sig a (lastC a stp cols w.fin) = N1
    generalize hcc : cut (sigOf w l.sig).chg a (lastC a stp cols w.fin) = cc at *
    generalize hvv : sigAt (sigOf w l.sig) a = vv at *
    have eV := spV_sp a vv (lastC a stp cols w.fin) cc
    have eC := spC_sp a vv (lastC a stp cols w.fin) cc
    generalize hes : spS a vv (lastC a stp cols w.fin) cc = es at *
    refine runS_sound hmix _ _ _ (of_eq (nDL4 w (-1) (c + 1 + N1) l a stp cols w.fin (sigOf w l.sig).kind (sigOf w l.sig).width es _) ?_)
    have hbw : (bif (sigOf w l.sig).kind == 0 then (sigOf w l.sig).width == 1 else false) = decide ((sigOf w l.sig).kind = 0 ∧ (sigOf w l.sig).width = 1) := by
      rw [Bool.eq_iff_iff]; simp
    rw [hbw]
    refine cond_intro (fun h5 => ?_) fun h5 => ?_
    · have h5 := of_decide_eq_true h5
      have hLC : lineC (sigOf w l.sig) a stp cols w.fin l.base = bitS vv cc stp w.fin cols.toNat a := by
        unfold lineC; rw [if_neg h3, if_pos h5, hcc, hvv]
      unfold lineS
      rw [hLC] at hLl ⊢
      rw [eV, eC]
      obtain ⟨t1, t2, t3⟩ := tailR (T := bitS vv cc stp w.fin cols.toNat a) (cols := cols) (by omega) hs2.2
      have hb := cbitX a stp cols w.fin es ⟨vv, cc, hes.symm, hco⟩
      rw [eV, eC] at hb
      refine ⟨PureW.mk hb, fun _ => ⟨t1, t2, ?_⟩⟩
      rw [t3]; exact RetLe.refl _ _
    · have h5 := of_decide_eq_false h5
      have hLC : lineC (sigOf w l.sig) a stp cols w.fin l.base = busS (txF (sigOf w l.sig).kind l.base) vv cc stp w.fin cols.toNat a 0 0 := by
        unfold lineC; rw [if_neg h3, if_neg h5, hcc, hvv]
      unfold lineS
      rw [hLC] at hLl ⊢
      refine at_le (st' := ⟨[(4, I cols), (6, .ep [I l.sig, .str l.lab, I l.base]), (13, .ep [I (sigOf w l.sig).kind]), (16, .own [I a, I stp, I cols, I w.fin]), (19, L es 3 Sp.d)], hM w (-1) (c + 1 + N1)⟩) ?_ ((StLe.layOwn 6 rfl (by kernel_rfl)).trans (StLe.layOwn 13 rfl (by kernel_rfl)))
      refine runS_sound hmix _ _ _ (of_eq (nDL5 w (-1) (c + 1 + N1) l a stp cols w.fin (sigOf w l.sig).kind es _) ?_)
      rw [eV, eC]
      obtain ⟨t1, t2, t3⟩ := tailR (T := busS (txF (sigOf w l.sig).kind l.base) vv cc stp w.fin cols.toNat a 0 0) (cols := cols) (by omega) hs2.2
      have hb := cbusX a stp cols w.fin es (sigOf w l.sig).kind l ⟨vv, cc, hes.symm, hco, fun i hi => ⟨by have := hcl i hi; omega, txF_len _ _ _ (by have := hcl i hi; omega)⟩⟩
      rw [eV, eC] at hb
      refine ⟨PureW.mk hb, fun _ => ⟨t1, t2, ?_⟩⟩
      rw [t3]; exact RetLe.refl _ _
end Go.Proofs.YtpcbjkjgjoemaaaDoor.S1
/- Lines: the reference's parts. -/
namespace Go.Proofs.YtpcbjkjgjoemaaaDoor.S1
open Go Go.Ab Go.Proofs
theorem cValZ [Lay] (q : Sig) (t : Int) (hw : q.width ≤ 1000000) : Pure PP 15 [q.d, I t] (.str (sigAt q t)) := c15 q t hw
theorem F69 : OkF 69 Tryd.f69 := ⟨by kernel_rfl, by kernel_rfl, by kernel_rfl⟩
def lv69 : List (List Nat × List Nat) := []
noncomputable def nrbs (q : Sig) (a : Int) (b : Int) : List Nat → Nat → Option Ans := scrAt [([1, 0], 2, Ans.pure [q.d, I a] (.str (sigAt q a))), ([1, 1, 0], 4, Ans.pure [q.d, I (addI .i64 a 1), I b] (.tup [I (↑(cntR q.chg (addI .i64 a 1) b) : Int), .str (lastV q.chg (addI .i64 a 1) b)])), ([1, 1, 1, 0, 0, 1, 0, 0], 1, Ans.pure [.str (sigAt q a)] (.str (lvR (sigAt q a))))]
theorem nrb [Lay] (q : Sig) (a b : Int) (K : D → Prop) : runS (En Tryd.f69) (fi Tryd.f69 K) (nrbs q a b) lv69 200 [.code []] ⟨argSlots 0 [q.d, I a, I b], .empty⟩ =
  (PureW PP 15 [q.d, I a] [q.d, I a] (.str (sigAt q a)) ∧ PureW PP 70 [q.d, I (addI .i64 a 1), I b] [q.d, I (addI .i64 a 1), I b] (.tup [I (↑(cntR q.chg (addI .i64 a 1) b) : Int), .str (lastV q.chg (addI .i64 a 1) b)]) ∧ bif (↑(cntR q.chg (addI .i64 a 1) b) : Int) == 0 then PureW PP 83 [.str (sigAt q a)] [.str (sigAt q a)] (.str (lvR (sigAt q a))) ∧ K (.str (lvR (sigAt q a))) else bif decide ((↑(cntR q.chg (addI .i64 a 1) b) : Int) > 1) then K (.str { data := #[35] : ByteArray }.data.toList) else bif bif sigAt q a == { data := #[48] : ByteArray }.data.toList then lastV q.chg (addI .i64 a 1) b == { data := #[49] : ByteArray }.data.toList else false then K (.str { data := #[47] : ByteArray }.data.toList) else bif bif sigAt q a == { data := #[49] : ByteArray }.data.toList then lastV q.chg (addI .i64 a 1) b == { data := #[48] : ByteArray }.data.toList else false then K (.str { data := #[92] : ByteArray }.data.toList) else K (.str { data := #[124] : ByteArray }.data.toList)) := by kernel_rfl
theorem F71 : OkF 71 Tryd.f71 := ⟨by kernel_rfl, by kernel_rfl, by kernel_rfl⟩
def lv71 : List (List Nat × List Nat) := [([1, 1, 1, 0, 1, 0], [1, 3, 7, 8])]
noncomputable def nrts (v : Str) (base : Int) : List Nat → Nat → Option Ans := scrAt [([1, 0, 1, 0, 0], 2, Ans.pure [.str v, I base] (.str (numR v base)))]
theorem nrt [Lay] (q : Sig) (v : Str) (base : Int) (K : D → Prop) : runS (En Tryd.f71) (fi Tryd.f71 K) (nrts v base) lv71 200 [.code []] ⟨argSlots 0 [q.d, .str v, I base], .empty⟩ =
  (bif q.kind == 0 then PureW PP 9 [.str v, I base] [.str v, I base] (.str (numR v base)) ∧ K (.str (numR v base)) else At (En Tryd.f71) (fi Tryd.f71 K) [It.code [1, 1, 1, 0, 1, 0], It.blk 0, It.code [1, 1, 1, 1]] { sl := [(1, .str v), (3, .own [I q.kind, I q.width, L q.chg 2 Chg.d]), (7, .str { data := #[] : ByteArray }.data.toList), (8, I 0)], h := Heap.empty : St }) := by kernel_rfl
def Srt (q : Sig) (v out : Str) (i : Int) : St := ⟨[(1, .str v), (3, .own [I q.kind, I q.width, L q.chg 2 Chg.d]), (7, .str out), (8, I i)], .empty⟩
noncomputable def nrtas  : List Nat → Nat → Option Ans := scrAt []
theorem nrta [Lay] (q : Sig) (v out : Str) (i : Int) (J : St → Prop) (K : D → Prop) : runS (En Tryd.f71) (fi Tryd.f71 K) (nrtas ) lv71 200 [.code [1, 1, 1, 0, 1, 0, 0], stp [1, 3, 7, 8] J, .blk 0, .code [1, 1, 1, 1]] (Srt q v out i) =
  (List.length v ≤ strM → bif decide (i < (↑(List.length v) : Int)) then ((q.kind == 2) = true → 0 ≤ i ∧ i < (↑(List.length v) : Int)) ∧ ((q.kind == 2 && !decide ((↑(List.getD v i.toNat 0).toNat : Int) < 32)) = true → 0 ≤ i ∧ i < (↑(List.length v) : Int)) ∧ bif bif q.kind == 2 then bif decide ((↑(List.getD v i.toNat 0).toNat : Int) < 32) then true else decide ((↑(List.getD v i.toNat 0).toNat : Int) > 126) else false then List.length out + 1 ≤ strM ∧ J { sl := [(1, .str v), (3, .own [I q.kind, I q.width, L q.chg 2 Chg.d]), (7, .str (out ++ { data := #[63] : ByteArray }.data.toList)), (8, I (addI .i64 i 1))], h := Heap.empty : St } else (0 ≤ i ∧ i ≤ addI .i64 i 1 ∧ addI .i64 i 1 ≤ (↑(List.length v) : Int)) ∧ List.length out + (List.drop i.toNat (List.take (addI .i64 i 1).toNat v)).length ≤ strM ∧ J { sl := [(1, .str v), (3, .own [I q.kind, I q.width, L q.chg 2 Chg.d]), (7, .str (out ++ List.drop i.toNat (List.take (addI .i64 i 1).toNat v))), (8, I (addI .i64 i 1))], h := Heap.empty : St } else K (.str out)) := by kernel_rfl
theorem F40 : OkF 40 Tryd.f40 := ⟨by kernel_rfl, by kernel_rfl, by kernel_rfl⟩
def lv40 : List (List Nat × List Nat) := [([1, 1, 0, 1, 0], [1, 2, 5, 11]), ([1, 1, 0, 1, 0, 0, 1, 0, 0, 1, 1, 0], [1, 2, 5, 11, 12]), ([1, 1, 1, 1, 0, 1, 0], [1, 5, 14])]
noncomputable def nrcs (stp : Int) (cols : Int) : List Nat → Nat → Option Ans := scrAt [([1, 0, 0], 2, Ans.pure [I stp, I cols] (B (szB stp cols)))]
theorem nrc [Lay] (w : Wv) (ls : List Ln) (a stp cols : Int) (K : D → Prop) : runS (En Tryd.f40) (fi Tryd.f40 K) (nrcs stp cols) lv40 200 [.code []] ⟨argSlots 0 [w.d, L ls 3 Ln.d, I a, I stp, I cols], .empty⟩ =
  (PureW PP 47 [I stp, I cols] [I stp, I cols] (B (szB stp cols)) ∧ (((!!szB stp cols) = true → ls.length ≤ lenM) → bif bif !szB stp cols then true else decide ((↑ls.length : Int) > 64) then K (I 1) else At (En Tryd.f40) (fi Tryd.f40 K) [It.code [1, 1, 0, 1, 0], It.blk 0, It.code [1, 1, 1]] { sl := [(1, L ls 3 Ln.d), (2, I a), (5, .own [L w.sig 3 Sig.d, L w.gap 2 Iv.d, I w.fin]), (11, I 0)], h := Heap.empty : St })) := by kernel_rfl
def Src (w : Wv) (ls : List Ln) (a i : Int) : St := ⟨[(1, L ls 3 Ln.d), (2, I a), (5, .own [L w.sig 3 Sig.d, L w.gap 2 Iv.d, I w.fin]), (11, I i)], .empty⟩
def Src2 (w : Wv) (ls : List Ln) (a i k : Int) : St := ⟨[(1, L ls 3 Ln.d), (2, I a), (5, .own [L w.sig 3 Sig.d, L w.gap 2 Iv.d, I w.fin]), (11, I i), (12, I k)], .empty⟩
def Src3 (w : Wv) (ls : List Ln) (i : Int) : St := ⟨[(1, L ls 3 Ln.d), (5, .own [L w.sig 3 Sig.d, L w.gap 2 Iv.d, I w.fin]), (14, I i)], .empty⟩
noncomputable def nrcas  : List Nat → Nat → Option Ans := scrAt []
theorem nrca [Lay] (w : Wv) (ls : List Ln) (a i : Int) (J : St → Prop) (K : D → Prop) : runS (En Tryd.f40) (fi Tryd.f40 K) (nrcas ) lv40 200 [.code [1, 1, 0, 1, 0, 0], stp [1, 2, 5, 11] J, .blk 0, .code [1, 1, 1]] (Src w ls a i) =
  (ls.length ≤ lenM → bif decide (i < (↑ls.length : Int)) then (0 ≤ i ∧ i < (↑ls.length : Int)) ∧ ((!decide ((ls.getD i.toNat default).base < 0)) = true → 0 ≤ i ∧ i < (↑ls.length : Int)) ∧ ((!bif decide ((ls.getD i.toNat default).base < 0) then true else decide ((ls.getD i.toNat default).base > 2)) = true → 0 ≤ i ∧ i < (↑ls.length : Int)) ∧ (((!bif decide ((ls.getD i.toNat default).base < 0) then true else decide ((ls.getD i.toNat default).base > 2)) = true → List.length (ls.getD i.toNat default).lab ≤ strM) → bif bif bif decide ((ls.getD i.toNat default).base < 0) then true else decide ((ls.getD i.toNat default).base > 2) then true else decide ((↑(List.length (ls.getD i.toNat default).lab) : Int) > 64) then K (I 1) else At (En Tryd.f40) (fi Tryd.f40 K) [It.code [1, 1, 0, 1, 0, 0, 1, 0, 0, 1, 1, 0], It.blk 2, It.blk 1, It.code [1, 1, 0, 1, 0, 0, 1, 1], stp [1, 2, 5, 11] J, It.blk 0, It.code [1, 1, 1]] { sl := [(1, L ls 3 Ln.d), (2, I a), (5, .own [L w.sig 3 Sig.d, L w.gap 2 Iv.d, I w.fin]), (11, I i), (12, I 0)], h := Heap.empty : St }) else bif bif decide (a < 0) then true else decide (a > w.fin) then K (I 2) else At (En Tryd.f40) (fi Tryd.f40 K) [It.code [1, 1, 1, 1, 0, 1, 0], It.blk 4, It.code [1, 1, 1, 1, 1]] { sl := [(1, L ls 3 Ln.d), (5, .own [L w.sig 3 Sig.d, L w.gap 2 Iv.d, I w.fin]), (14, I 0)], h := Heap.empty : St }) := by kernel_rfl
noncomputable def nrcbs  : List Nat → Nat → Option Ans := scrAt []
theorem nrcb [Lay] (w : Wv) (ls : List Ln) (a i k : Int) (J J2 : St → Prop) (K : D → Prop) : runS (En Tryd.f40) (fi Tryd.f40 K) (nrcbs ) lv40 200 [.code [1, 1, 0, 1, 0, 0, 1, 0, 0, 1, 1, 0, 0], stp [1, 2, 5, 11, 12] J, .blk 2, .blk 1, .code [1, 1, 0, 1, 0, 0, 1, 1], stp [1, 2, 5, 11] J2, .blk 0, .code [1, 1, 1]] (Src2 w ls a i k) =
  ((0 ≤ i ∧ i < (↑ls.length : Int)) ∧ (List.length (ls.getD i.toNat default).lab ≤ strM → bif decide (k < (↑(List.length (ls.getD i.toNat default).lab) : Int)) then (0 ≤ i ∧ i < (↑ls.length : Int)) ∧ (0 ≤ k ∧ k < (↑(List.length (ls.getD i.toNat default).lab) : Int)) ∧ bif bif decide ((↑(List.getD (ls.getD i.toNat default).lab k.toNat 0).toNat : Int) < 32) then true else decide ((↑(List.getD (ls.getD i.toNat default).lab k.toNat 0).toNat : Int) > 126) then K (I 1) else J { sl := [(1, L ls 3 Ln.d), (2, I a), (5, .own [L w.sig 3 Sig.d, L w.gap 2 Iv.d, I w.fin]), (11, I i), (12, I (addI .i64 k 1))], h := Heap.empty : St } else J2 { sl := [(1, L ls 3 Ln.d), (2, I a), (5, .own [L w.sig 3 Sig.d, L w.gap 2 Iv.d, I w.fin]), (11, I (addI .i64 i 1))], h := Heap.empty : St })) := by kernel_rfl
noncomputable def nrccs  : List Nat → Nat → Option Ans := scrAt []
theorem nrcc [Lay] (w : Wv) (ls : List Ln) (i : Int) (J : St → Prop) (K : D → Prop) : runS (En Tryd.f40) (fi Tryd.f40 K) (nrccs ) lv40 200 [.code [1, 1, 1, 1, 0, 1, 0, 0], stp [1, 5, 14] J, .blk 4, .code [1, 1, 1, 1, 1]] (Src3 w ls i) =
  (ls.length ≤ lenM → bif decide (i < (↑ls.length : Int)) then (0 ≤ i ∧ i < (↑ls.length : Int)) ∧ ((!decide ((ls.getD i.toNat default).sig < 0)) = true → 0 ≤ i ∧ i < (↑ls.length : Int)) ∧ (((!decide ((ls.getD i.toNat default).sig < 0)) = true → w.sig.length ≤ lenM) → bif bif decide ((ls.getD i.toNat default).sig < 0) then true else decide ((ls.getD i.toNat default).sig ≥ (↑w.sig.length : Int)) then K (I 2) else J { sl := [(1, L ls 3 Ln.d), (5, .own [L w.sig 3 Sig.d, L w.gap 2 Iv.d, I w.fin]), (14, I (addI .i64 i 1))], h := Heap.empty : St }) else K (I 0)) := by kernel_rfl
def bitRf (q : Sig) (a b : Int) : Str :=
  if cntR q.chg (a + 1) b = 0 then lvR (sigAt q a) else if 1 < cntR q.chg (a + 1) b then [35] else if sigAt q a = [48] ∧ lastV q.chg (a + 1) b = [49] then [47] else if sigAt q a = [49] ∧ lastV q.chg (a + 1) b = [48] then [92] else [124]
theorem c69 [Lay] (q : Sig) (a b : Int) (hw : q.width ≤ 1000000) (ha : 0 ≤ a ∧ a ≤ 9223372036854775806) : Pure PP 69 [q.d, I a, I b] (.str (bitRf q a b)) := by
  refine pu F69 (by kernel_rfl) (of_eq (nrb q a b _) ⟨PureW.mk (cValZ q a hw), PureW.mk (c70 _ _ _), ?_⟩)
  rw [add64 (by omega) (by omega)]
  unfold bitRf
  refine cond_intro (fun h => ⟨PureW.mk (c83 _), ?_⟩) fun h => cond_intro (fun h1 => ?_) fun h1 => cond_intro (fun h2 => ?_) fun h2 => cond_intro (fun h3 => ?_) fun h3 => ?_
  · have h : cntR q.chg (a + 1) b = 0 := by simpa using h
    rw [if_pos h]; exact Wk.refl _
  all_goals have h : ¬ cntR q.chg (a + 1) b = 0 := by simpa using h
  all_goals rw [if_neg h]
  · have h1 : 1 < cntR q.chg (a + 1) b := by have := of_decide_eq_true h1; omega
    rw [if_pos h1]; exact Wk.refl _
  all_goals have h1 : ¬ 1 < cntR q.chg (a + 1) b := by have := of_decide_eq_false h1; omega
  all_goals rw [if_neg h1]
  · have h2 : sigAt q a = [48] ∧ lastV q.chg (a + 1) b = [49] := by simpa using h2
    rw [if_pos h2]; exact Wk.refl _
  all_goals have h2 : ¬ (sigAt q a = [48] ∧ lastV q.chg (a + 1) b = [49]) := by simpa using h2
  all_goals rw [if_neg h2]
  · have h3 : sigAt q a = [49] ∧ lastV q.chg (a + 1) b = [48] := by simpa using h3
    rw [if_pos h3]; exact Wk.refl _
  · have h3 : ¬ (sigAt q a = [49] ∧ lastV q.chg (a + 1) b = [48]) := by simpa using h3
    rw [if_neg h3]; exact Wk.refl _
def txR (k base : Int) (v : Str) : Str := if k = 0 then numR v base else if k = 2 then v.map qmB else v
theorem c71 [Lay] (q : Sig) (v : Str) (base : Int) (hl : v.length ≤ 1000000) : Pure PP 71 [q.d, .str v, I base] (.str (txR q.kind base v)) := by
  refine pu F71 (by kernel_rfl) (of_eq (nrt q v base _) (cond_intro (fun h => ⟨PureW.mk (c9 v base), ?_⟩) fun h => ?_)) <;> unfold txR
  · rw [if_pos (by simpa using h)]; exact Wk.refl _
  rw [if_neg (by simpa using h)]
  refine lp (fn := Tryd.f71) (fun z : Nat × Str => z.1 ≤ v.length ∧ z.2.length = z.1 ∧ (if q.kind = 2 then v.map qmB else v) = z.2 ++ (if q.kind = 2 then (v.drop z.1).map qmB else v.drop z.1)) (fun z => Srt q v z.2 z.1) (fun z => v.length - z.1) [1, 3, 7, 8] (by kernel_rfl) (fun z hz => of_eq (nrta q v z.2 z.1 _ _) fun hlm => ?_) (0, []) ⟨Nat.zero_le _, rfl, rfl⟩
  obtain ⟨i, out⟩ := z
  obtain ⟨hi, ho, he⟩ := hz
  simp only at hi ho he ⊢
  refine cond_intro (fun hlt => ?_) fun hge => ?_
  · have hlt := ltI hlt
    have hin : (0 : Int) ≤ (i : Int) ∧ (i : Int) < (v.length : Int) := ⟨by omega, by omega⟩
    have h1 : addI .i64 (i : Int) 1 = ((i + 1 : Nat) : Int) := by rw [add64 (by omega) (by omega)]; rfl
    rw [h1, Int.toNat_natCast, Int.toNat_natCast]
    have hgd : (List.getD v i 0 : UInt8) = v.getD i default := rfl
    rw [hgd]
    rw [drop_cons _ _ hlt] at he
    have hdt : (v.take (i + 1)).drop i = [v.getD i default] := by
      rw [take_snoc v i hlt, List.drop_append, List.drop_of_length_le (by rw [List.length_take]; omega), List.length_take, Nat.min_eq_left (by omega), Nat.sub_self]; rfl
    rw [hdt]
    generalize v.getD i default = x at he ⊢
    have hbd : (bif q.kind == 2 then bif decide ((x.toNat : Int) < 32) then true else decide ((x.toNat : Int) > 126) else false) = (decide (q.kind = 2) && lbBad x) := by
      unfold lbBad
      by_cases h2 : q.kind = 2
      · rw [h2]; rfl
      · have : (q.kind == 2) = false := by simpa using h2
        rw [this, decide_eq_false h2]; rfl
    rw [hbd]
    refine ⟨fun _ => hin, fun _ => hin, cond_intro (fun h2 => ⟨by unfold strM; omega, ?_⟩) fun h2 => ⟨⟨by omega, by omega, by omega⟩, by simp only [List.length_singleton]; unfold strM; omega, ?_⟩⟩
    · have h2 : q.kind = 2 ∧ lbBad x = true := by simpa using h2
      rw [if_pos h2.1, if_pos h2.1] at he
      refine Nx.mk (i + 1, out ++ [63]) ⟨hlt, by simp only [List.length_append, List.length_singleton]; omega, ?_⟩ (by simp only; omega)
      simp only
      rw [if_pos h2.1, if_pos h2.1, he, List.map_cons, List.append_assoc]
      have : qmB x = 63 := by unfold qmB; rw [if_pos h2.2]
      rw [this]; rfl
    · refine Nx.mk (i + 1, out ++ [x]) ⟨hlt, by simp only [List.length_append, List.length_singleton]; omega, ?_⟩ (by simp only; omega)
      simp only
      by_cases h3 : q.kind = 2
      · rw [if_pos h3, if_pos h3] at he ⊢
        have hlb : lbBad x = false := by
          cases hb : lbBad x with
          | false => rfl
          | true => rw [hb, decide_eq_true h3] at h2; cases h2
        rw [he, List.map_cons, List.append_assoc]
        have : qmB x = x := by unfold qmB; rw [if_neg (by rw [hlb]; simp)]
        rw [this]; rfl
      · rw [if_neg h3, if_neg h3] at he ⊢
        rw [List.append_assoc]; exact he
  · have hge := geI hge
    rw [List.drop_of_length_le hge] at he
    have : (if q.kind = 2 then v.map qmB else v) = out := by rw [he]; simp
    rw [this]; exact Wk.refl _
def chkF (w : Wv) (ls : List Ln) (a stp cols : Int) : Int := if chkR w ls a stp cols ≠ 0 then chkR w ls a stp cols else if ls.all (fun l => decide (0 ≤ l.sig ∧ l.sig < (w.sig.length : Int))) = true then 0 else 2
theorem c40 [Lay] (w : Wv) (ls : List Ln) (a stp cols : Int) : Pure PP 40 [w.d, L ls 3 Ln.d, I a, I stp, I cols] (I (chkF w ls a stp cols)) := by
  refine pu F40 (by kernel_rfl) (of_eq (nrc w ls a stp cols _) ⟨PureW.mk (c47 _ _), fun _ => ?_⟩)
  have hcc : (bif !szB stp cols then true else decide ((ls.length : Int) > 64)) = decide (szB stp cols = false ∨ ls.length > 64) := by
    rw [Bool.eq_iff_iff]; cases szB stp cols <;> simp; omega
  rw [hcc]
  unfold chkF
  refine cond_intro (fun h => ?_) fun h => ?_
  · have hR : chkR w ls a stp cols = 1 := by unfold chkR; rw [if_pos (of_decide_eq_true h)]
    rw [hR]; exact Wk.refl _
  have hR : chkR w ls a stp cols = if ls.all lnB = false then 1 else if a < 0 ∨ a > w.fin then 2 else 0 := by unfold chkR; rw [if_neg (of_decide_eq_false h)]
  rw [hR]
  refine lp (fn := Tryd.f40) (fun i : Nat => i ≤ ls.length ∧ ls.all lnB = (ls.drop i).all lnB) (fun i => Src w ls a i) (fun i => ls.length - i) [1, 2, 5, 11] (by kernel_rfl) (fun i hi => of_eq (nrca w ls a i _ _) fun hl => cond_intro (fun hlt => ?_) fun hge => ?_) 0 ⟨Nat.zero_le _, rfl⟩
  · have hlt := ltI hlt
    obtain ⟨_, he⟩ := hi
    have hin : (0 : Int) ≤ (i : Int) ∧ (i : Int) < (ls.length : Int) := ⟨by omega, by omega⟩
    rw [Int.toNat_natCast]
    rw [all_drop hlt] at he
    have hgl : ls.getD i default = ls.getD i default := rfl
    generalize hx : ls.getD i default = x at he ⊢
    refine ⟨hin, fun _ => hin, fun _ => hin, fun hlm => ?_⟩
    have hb : (bif bif decide (x.base < 0) then true else decide (x.base > 2) then true else decide ((x.lab.length : Int) > 64)) = !decide (0 ≤ x.base ∧ x.base ≤ 2 ∧ x.lab.length ≤ 64) := by
      rw [Bool.eq_iff_iff]; simp; omega
    rw [hb]
    refine cond_intro (fun h2 => ?_) fun h2 => ?_
    · have hf : lnB x = false := by
        unfold lnB
        have : decide (0 ≤ x.base ∧ x.base ≤ 2 ∧ x.lab.length ≤ 64) = false := by
          cases hd : decide (0 ≤ x.base ∧ x.base ≤ 2 ∧ x.lab.length ≤ 64) with
          | false => rfl
          | true => rw [hd] at h2; cases h2
        rw [this, Bool.and_false]
      rw [he, hf, Bool.false_and, if_pos rfl]; exact Wk.refl _
    · have hok : decide (0 ≤ x.base ∧ x.base ≤ 2 ∧ x.lab.length ≤ 64) = true := by
        cases hd : decide (0 ≤ x.base ∧ x.base ≤ 2 ∧ x.lab.length ≤ 64) with
        | true => rfl
        | false => rw [hd] at h2; cases h2
      have hlb : lnB x = x.lab.all (fun c => !lbBad c) := by unfold lnB; rw [hok, Bool.and_true]
      rw [hlb] at he
      refine lp (fn := Tryd.f40) (fun k : Nat => k ≤ x.lab.length ∧ x.lab.all (fun c => !lbBad c) = (x.lab.drop k).all (fun c => !lbBad c)) (fun k => Src2 w ls a i k) (fun k => x.lab.length - k) [1, 2, 5, 11, 12] (by kernel_rfl) (fun k hk => of_eq (nrcb w ls a i k _ _ _) ?_) 0 ⟨Nat.zero_le _, rfl⟩
      rw [Int.toNat_natCast, hx]
      refine ⟨hin, fun hls => cond_intro (fun hlt2 => ?_) fun hge2 => ?_⟩
      · have hlt2 := ltI hlt2
        obtain ⟨_, hk2⟩ := hk
        have h1 : addI .i64 (k : Int) 1 = ((k + 1 : Nat) : Int) := add1 hlt2 (by unfold strM at hls; unfold lenM; omega)
        rw [h1, Int.toNat_natCast]
        rw [all_drop hlt2] at hk2
        refine ⟨hin, ⟨by omega, by omega⟩, cond_intro (fun h3 => ?_) fun h3 => ?_⟩
        · have h3 : lbBad (x.lab.getD k default) = true := h3
          rw [h3] at hk2
          rw [he, hk2, Bool.not_true, Bool.false_and, Bool.false_and, if_pos rfl]; exact Wk.refl _
        · have h3 : lbBad (x.lab.getD k default) = false := h3
          exact Nx.mk (k + 1) ⟨hlt2, by rw [hk2, h3]; rfl⟩ (by omega)
      · have hk2 := hk.2
        rw [List.drop_of_length_le (geI hge2)] at hk2
        rw [hk2] at he
        have h1 : addI .i64 (i : Int) 1 = ((i + 1 : Nat) : Int) := add1 hlt hl
        rw [h1]
        exact Nx.mk (i + 1) ⟨hlt, by rw [he]; simp⟩ (by omega)
  · have hall : ls.all lnB = true := by rw [hi.2, List.drop_of_length_le (geI hge)]; rfl
    rw [hall, if_neg (show ¬ (true = false) by decide)]
    have hca : (bif decide (a < 0) then true else decide (a > w.fin)) = decide (a < 0 ∨ a > w.fin) := by
      rw [Bool.eq_iff_iff]; simp
    rw [hca]
    refine cond_intro (fun h2 => ?_) fun h2 => ?_
    · rw [if_pos (of_decide_eq_true h2), if_pos (by decide)]; exact Wk.refl _
    rw [if_neg (of_decide_eq_false h2), if_neg (by decide)]
    refine lp (fn := Tryd.f40) (fun k : Nat => k ≤ ls.length ∧ ls.all (fun l => decide (0 ≤ l.sig ∧ l.sig < (w.sig.length : Int))) = (ls.drop k).all (fun l => decide (0 ≤ l.sig ∧ l.sig < (w.sig.length : Int)))) (fun k => Src3 w ls k) (fun k => ls.length - k) [1, 5, 14] (by kernel_rfl) (fun k hk => of_eq (nrcc w ls k _ _) fun hl => cond_intro (fun hlt => ?_) fun hge2 => ?_) 0 ⟨Nat.zero_le _, rfl⟩
    · have hlt := ltI hlt
      obtain ⟨_, he⟩ := hk
      rw [add1 hlt hl, Int.toNat_natCast]
      rw [all_drop hlt] at he
      generalize ls.getD k default = x at he ⊢
      have hb : (bif decide (x.sig < 0) then true else decide (x.sig ≥ (w.sig.length : Int))) = !decide (0 ≤ x.sig ∧ x.sig < (w.sig.length : Int)) := by
        rw [Bool.eq_iff_iff]; simp; try omega
      rw [hb]
      refine ⟨⟨by omega, by omega⟩, fun _ => ⟨by omega, by omega⟩, fun _ => cond_intro (fun h3 => ?_) fun h3 => ?_⟩
      · have h3 : decide (0 ≤ x.sig ∧ x.sig < (w.sig.length : Int)) = false := by
          cases hd : decide (0 ≤ x.sig ∧ x.sig < (w.sig.length : Int)) with
          | false => rfl
          | true => rw [hd] at h3; cases h3
        rw [he, h3, Bool.false_and, if_neg (by decide)]; exact Wk.refl _
      · have h3 : decide (0 ≤ x.sig ∧ x.sig < (w.sig.length : Int)) = true := by
          cases hd : decide (0 ≤ x.sig ∧ x.sig < (w.sig.length : Int)) with
          | true => rfl
          | false => rw [hd] at h3; cases h3
        exact Nx.mk (k + 1) ⟨hlt, by rw [he, h3]; rfl⟩ (by omega)
    · rw [hk.2, List.drop_of_length_le (geI hge2), if_pos (by simp)]; exact Wk.refl _
end Go.Proofs.YtpcbjkjgjoemaaaDoor.S1
/- Lines: the reference's line. -/
namespace Go.Proofs.YtpcbjkjgjoemaaaDoor.S1
open Go Go.Ab Go.Proofs
theorem F41 : OkF 41 Tryd.f41 := ⟨by kernel_rfl, by kernel_rfl, by kernel_rfl⟩
def lv41 : List (List Nat × List Nat) := [([1, 1, 1, 1, 0, 1, 0], [2, 3, 4, 5, 6, 11, 12, 13, 14, 15]), ([1, 1, 1, 1, 0, 1, 0, 0, 1, 0, 0, 1, 1, 1, 1, 1, 1, 1, 1, 1, 0, 1, 0, 1, 0, 0], [2, 3, 4, 5, 6, 11, 12, 15, 16, 21])]
noncomputable def nrls  : List Nat → Nat → Option Ans := scrAt []
theorem nrl [Lay] (w : Wv) (l : Ln) (a stp cols : Int) (K : D → Prop) : runS (En Tryd.f41) (fi Tryd.f41 K) (nrls ) lv41 200 [.code []] ⟨argSlots 0 [w.d, l.d, I a, I stp, I cols], .empty⟩ =
  ((0 ≤ l.sig ∧ l.sig < (↑w.sig.length : Int)) ∧ True ∧ At (En Tryd.f41) (fi Tryd.f41 K) [It.code [1, 1, 1, 1, 0, 1, 0], It.blk 0, It.code [1, 1, 1, 1, 1]] { sl := [(2, I a), (3, I stp), (4, I cols), (5, .own [L w.sig 3 Sig.d, L w.gap 2 Iv.d, I w.fin]), (6, .own [I l.sig, .str l.lab, I l.base]), (11, .own [I (w.sig.getD l.sig.toNat default).kind, I (w.sig.getD l.sig.toNat default).width, L (w.sig.getD l.sig.toNat default).chg 2 Chg.d]), (12, .str { data := #[] : ByteArray }.data.toList), (13, .str { data := #[] : ByteArray }.data.toList), (14, B false), (15, I 0)], h := Heap.empty : St }) := by kernel_rfl
def Srl (w : Wv) (l : Ln) (q : Sig) (a stp cols : Int) (out rest : Str) (opn : Bool) (j : Int) : St := ⟨[(2, I a), (3, I stp), (4, I cols), (5, .own [L w.sig 3 Sig.d, L w.gap 2 Iv.d, I w.fin]), (6, .own [I l.sig, .str l.lab, I l.base]), (11, .own [I q.kind, I q.width, L q.chg 2 Chg.d]), (12, .str out), (13, .str rest), (14, B opn), (15, I j)], .empty⟩
def Srl2 (w : Wv) (l : Ln) (q : Sig) (a stp cols : Int) (out : Str) (j x r : Int) : St := ⟨[(2, I a), (3, I stp), (4, I cols), (5, .own [L w.sig 3 Sig.d, L w.gap 2 Iv.d, I w.fin]), (6, .own [I l.sig, .str l.lab, I l.base]), (11, .own [I q.kind, I q.width, L q.chg 2 Chg.d]), (12, .str out), (15, I j), (16, I x), (21, I r)], .empty⟩
noncomputable def lvRA : List (List Nat × List Nat) := [([1, 1, 1, 1, 0, 1, 0, 0, 1, 0, 0, 1, 1], [2, 3, 4, 5, 6, 11, 12, 13, 14, 15, 16, 17])]
noncomputable def lvRB : List (List Nat × List Nat) := [([1, 1, 1, 1, 0, 1, 0, 0, 1, 0, 0, 1, 1, 1, 1], [2, 3, 4, 5, 6, 11, 12, 13, 14, 15, 16, 17])]
noncomputable def lvRC : List (List Nat × List Nat) := [([1, 1, 1, 1, 0, 1, 0, 0, 1, 0, 0, 1, 1, 1, 1, 1, 1], [2, 3, 4, 5, 6, 11, 12, 13, 14, 15, 16, 17, 18])]
noncomputable def lvRE : List (List Nat × List Nat) := [([1, 1, 1, 1, 0, 1, 0, 0, 1, 0, 0, 1, 1, 1, 1, 1, 1, 1, 1, 1, 0, 1, 0, 1, 1], [2, 3, 4, 5, 6, 11, 12, 15, 16, 21])]
noncomputable def nrAs  : List Nat → Nat → Option Ans := scrAt []
theorem nrA [Lay] (w : Wv) (l : Ln) (q : Sig) (a sp cols : Int) (out rest : Str) (opn : Bool) (j : Int) (J : St → Prop) (K : D → Prop) : runS (En Tryd.f41) (fi Tryd.f41 K) (nrAs ) lvRA 200 [.code [1, 1, 1, 1, 0, 1, 0, 0], stp [2, 3, 4, 5, 6, 11, 12, 13, 14, 15] J, .blk 0, .code [1, 1, 1, 1, 1]] (Srl w l q a sp cols out rest opn j) =
  (bif decide (j < cols) then At (En Tryd.f41) (fi Tryd.f41 K) [It.code [1, 1, 1, 1, 0, 1, 0, 0, 1, 0, 0, 1, 1], It.blk 1, It.code [1, 1, 1, 1, 0, 1, 0, 0, 1, 1], stp [2, 3, 4, 5, 6, 11, 12, 13, 14, 15] J, It.blk 0, It.code [1, 1, 1, 1, 1]] { sl := [(2, I a), (3, I sp), (4, I cols), (5, .own [L w.sig 3 Sig.d, L w.gap 2 Iv.d, I w.fin]), (6, .own [I l.sig, .str l.lab, I l.base]), (11, .own [I q.kind, I q.width, L q.chg 2 Chg.d]), (12, .str out), (13, .str rest), (14, B opn), (15, I j), (16, I (addI .i64 a (mulI .i64 j sp))), (17, I (if w.fin < subI .i64 (addI .i64 (addI .i64 a (mulI .i64 j sp)) sp) 1 then w.fin else subI .i64 (addI .i64 (addI .i64 a (mulI .i64 j sp)) sp) 1))], h := Heap.empty : St } else K (.str out)) := by kernel_rfl
noncomputable def nrBs (q : Sig) (x : Int) (y : Int) : List Nat → Nat → Option Ans := scrAt [([1, 1, 1, 1, 0, 1, 0, 0, 1, 0, 0, 1, 1, 1, 0, 1, 0, 0], 4, Ans.pure [q.d, I x, I y] (.str (bitRf q x y)))]
theorem nrB [Lay] (w : Wv) (l : Ln) (q : Sig) (a sp cols : Int) (out rest : Str) (opn : Bool) (j : Int) (x y : Int) (J : St → Prop) (K : D → Prop) : runS (En Tryd.f41) (fi Tryd.f41 K) (nrBs q x y) lvRB 200 [.code [1, 1, 1, 1, 0, 1, 0, 0, 1, 0, 0, 1, 1], .blk 1, .code [1, 1, 1, 1, 0, 1, 0, 0, 1, 1], stp [2, 3, 4, 5, 6, 11, 12, 13, 14, 15] J, .blk 0, .code [1, 1, 1, 1, 1]] ⟨[(2, I a), (3, I sp), (4, I cols), (5, .own [L w.sig 3 Sig.d, L w.gap 2 Iv.d, I w.fin]), (6, .own [I l.sig, .str l.lab, I l.base]), (11, .own [I q.kind, I q.width, L q.chg 2 Chg.d]), (12, .str out), (13, .str rest), (14, B opn), (15, I j), (16, I x), (17, I y)], .empty⟩ =
  (bif decide (x > w.fin) then List.length out + 1 ≤ strM ∧ J { sl := [(2, I a), (3, I sp), (4, I cols), (5, .own [L w.sig 3 Sig.d, L w.gap 2 Iv.d, I w.fin]), (6, .own [I l.sig, .str l.lab, I l.base]), (11, .own [I q.kind, I q.width, L q.chg 2 Chg.d]), (12, .str (out ++ { data := #[32] : ByteArray }.data.toList)), (13, .str rest), (14, B opn), (15, I (addI .i64 j 1))], h := Heap.empty : St }
 else bif bif q.kind == 0 then q.width == 1 else false then PureW PP 69 [q.d, I x, I y] [q.d, I x, I y] (.str (bitRf q x y)) ∧ List.length out + List.length (bitRf q x y) ≤ strM ∧ J { sl := [(2, I a), (3, I sp), (4, I cols), (5, .own [L w.sig 3 Sig.d, L w.gap 2 Iv.d, I w.fin]), (6, .own [I l.sig, .str l.lab, I l.base]), (11, .own [I q.kind, I q.width, L q.chg 2 Chg.d]), (12, .str (out ++ bitRf q x y)), (13, .str rest), (14, B opn), (15, I (addI .i64 j 1))], h := Heap.empty : St } else At (En Tryd.f41) (fi Tryd.f41 K) [It.code [1, 1, 1, 1, 0, 1, 0, 0, 1, 0, 0, 1, 1, 1, 1], It.blk 1, It.code [1, 1, 1, 1, 0, 1, 0, 0, 1, 1], stp [2, 3, 4, 5, 6, 11, 12, 13, 14, 15] J, It.blk 0, It.code [1, 1, 1, 1, 1]] { sl := [(2, I a), (3, I sp), (4, I cols), (5, .own [L w.sig 3 Sig.d, L w.gap 2 Iv.d, I w.fin]), (6, .own [I l.sig, .str l.lab, I l.base]), (11, .own [I q.kind, I q.width, L q.chg 2 Chg.d]), (12, .str out), (13, .str rest), (14, B opn), (15, I j), (16, I x), (17, I y)], h := Heap.empty : St }) := by kernel_rfl
noncomputable def nrCs  : List Nat → Nat → Option Ans := scrAt []
theorem nrC [Lay] (w : Wv) (l : Ln) (q : Sig) (a sp cols : Int) (out rest : Str) (opn : Bool) (j : Int) (x y : Int) (J : St → Prop) (K : D → Prop) : runS (En Tryd.f41) (fi Tryd.f41 K) (nrCs ) lvRC 200 [.code [1, 1, 1, 1, 0, 1, 0, 0, 1, 0, 0, 1, 1, 1, 1], .blk 1, .code [1, 1, 1, 1, 0, 1, 0, 0, 1, 1], stp [2, 3, 4, 5, 6, 11, 12, 13, 14, 15] J, .blk 0, .code [1, 1, 1, 1, 1]] ⟨[(2, I a), (3, I sp), (4, I cols), (5, .own [L w.sig 3 Sig.d, L w.gap 2 Iv.d, I w.fin]), (6, .own [I l.sig, .str l.lab, I l.base]), (11, .own [I q.kind, I q.width, L q.chg 2 Chg.d]), (12, .str out), (13, .str rest), (14, B opn), (15, I j), (16, I x), (17, I y)], .empty⟩ =
  (bif bif j == 0 then q.kind != 3 else false then At (En Tryd.f41) (fi Tryd.f41 K) [It.code [1, 1, 1, 1, 0, 1, 0, 0, 1, 0, 0, 1, 1, 1, 1, 1, 1], It.blk 1, It.code [1, 1, 1, 1, 0, 1, 0, 0, 1, 1], stp [2, 3, 4, 5, 6, 11, 12, 13, 14, 15] J, It.blk 0, It.code [1, 1, 1, 1, 1]] { sl := [(2, I a), (3, I sp), (4, I cols), (5, .own [L w.sig 3 Sig.d, L w.gap 2 Iv.d, I w.fin]), (6, .own [I l.sig, .str l.lab, I l.base]), (11, .own [I q.kind, I q.width, L q.chg 2 Chg.d]), (12, .str out), (13, .str rest), (14, B opn), (15, I j), (16, I x), (17, I y), (18, I (addI .i64 x 1))], h := Heap.empty : St } else At (En Tryd.f41) (fi Tryd.f41 K) [It.code [1, 1, 1, 1, 0, 1, 0, 0, 1, 0, 0, 1, 1, 1, 1, 1, 1], It.blk 1, It.code [1, 1, 1, 1, 0, 1, 0, 0, 1, 1], stp [2, 3, 4, 5, 6, 11, 12, 13, 14, 15] J, It.blk 0, It.code [1, 1, 1, 1, 1]] { sl := [(2, I a), (3, I sp), (4, I cols), (5, .own [L w.sig 3 Sig.d, L w.gap 2 Iv.d, I w.fin]), (6, .own [I l.sig, .str l.lab, I l.base]), (11, .own [I q.kind, I q.width, L q.chg 2 Chg.d]), (12, .str out), (13, .str rest), (14, B opn), (15, I j), (16, I x), (17, I y), (18, I x)], h := Heap.empty : St }) := by kernel_rfl
noncomputable def lvRD : List (List Nat × List Nat) := [([1, 1, 1, 1, 0, 1, 0, 0, 1, 0, 0, 1, 1, 1, 1, 1, 1, 1, 1], [2, 3, 4, 5, 6, 11, 12, 13, 14, 15, 16, 19])]
noncomputable def lvRD2 : List (List Nat × List Nat) := lv41 ++ [([1, 1, 1, 1, 0, 1, 0, 0, 1, 0, 0, 1, 1, 1, 1, 1, 1, 1, 1, 1, 1], [2, 3, 4, 5, 6, 11, 12, 13, 14, 15])]
noncomputable def nrDs (q : Sig) (y : Int) (f : Int) : List Nat → Nat → Option Ans := scrAt [([1, 1, 1, 1, 0, 1, 0, 0, 1, 0, 0, 1, 1, 1, 1, 1, 1, 0], 3, Ans.pure [q.d, I f, I y] (.tup [I (↑(cntR q.chg f y) : Int), .str (lastV q.chg f y)]))]
theorem nrD [Lay] (w : Wv) (l : Ln) (q : Sig) (a sp cols : Int) (out rest : Str) (opn : Bool) (j : Int) (x y f : Int) (J : St → Prop) (K : D → Prop) : runS (En Tryd.f41) (fi Tryd.f41 K) (nrDs q y f) lvRD 200 [.code [1, 1, 1, 1, 0, 1, 0, 0, 1, 0, 0, 1, 1, 1, 1, 1, 1], .blk 1, .code [1, 1, 1, 1, 0, 1, 0, 0, 1, 1], stp [2, 3, 4, 5, 6, 11, 12, 13, 14, 15] J, .blk 0, .code [1, 1, 1, 1, 1]] ⟨[(2, I a), (3, I sp), (4, I cols), (5, .own [L w.sig 3 Sig.d, L w.gap 2 Iv.d, I w.fin]), (6, .own [I l.sig, .str l.lab, I l.base]), (11, .own [I q.kind, I q.width, L q.chg 2 Chg.d]), (12, .str out), (13, .str rest), (14, B opn), (15, I j), (16, I x), (17, I y), (18, I f)], .empty⟩ =
  (PureW PP 70 [q.d, I f, I y] [q.d, I f, I y] (.tup [I (↑(cntR q.chg f y) : Int), .str (lastV q.chg f y)]) ∧
  bif q.kind == 3 then ((0 ≤ if 2 < (↑(cntR q.chg f y) : Int) then 2 else (↑(cntR q.chg f y) : Int)) ∧ (if 2 < (↑(cntR q.chg f y) : Int) then 2 else (↑(cntR q.chg f y) : Int)) < (↑3 : Int)) ∧ List.length out + ([{ data := #[46] : ByteArray }.data.toList, { data := #[33] : ByteArray }.data.toList, { data := #[35] : ByteArray }.data.toList].getD (if 2 < (↑(cntR q.chg f y) : Int) then 2 else (↑(cntR q.chg f y) : Int)).toNat default).length ≤ strM ∧ J { sl := [(2, I a), (3, I sp), (4, I cols), (5, .own [L w.sig 3 Sig.d, L w.gap 2 Iv.d, I w.fin]), (6, .own [I l.sig, .str l.lab, I l.base]), (11, .own [I q.kind, I q.width, L q.chg 2 Chg.d]), (12, .str (out ++ [{ data := #[46] : ByteArray }.data.toList, { data := #[33] : ByteArray }.data.toList, { data := #[35] : ByteArray }.data.toList].getD (if 2 < (↑(cntR q.chg f y) : Int) then 2 else (↑(cntR q.chg f y) : Int)).toNat default)), (13, .str rest), (14, B opn), (15, I (addI .i64 j 1))], h := Heap.empty : St }
  else At (En Tryd.f41) (fi Tryd.f41 K) [It.code [1, 1, 1, 1, 0, 1, 0, 0, 1, 0, 0, 1, 1, 1, 1, 1, 1, 1, 1], It.blk 1, It.code [1, 1, 1, 1, 0, 1, 0, 0, 1, 1], stp [2, 3, 4, 5, 6, 11, 12, 13, 14, 15] J, It.blk 0, It.code [1, 1, 1, 1, 1]] { sl := [(2, I a), (3, I sp), (4, I cols), (5, .own [L w.sig 3 Sig.d, L w.gap 2 Iv.d, I w.fin]), (6, .own [I l.sig, .str l.lab, I l.base]), (11, .own [I q.kind, I q.width, L q.chg 2 Chg.d]), (12, .str out), (13, .str rest), (14, B opn), (15, I j), (16, I x), (19, I (↑(cntR q.chg f y) : Int))], h := Heap.empty : St }) := by kernel_rfl
noncomputable def nrD2s  : List Nat → Nat → Option Ans := scrAt []
theorem nrD2 [Lay] (w : Wv) (l : Ln) (q : Sig) (a sp cols : Int) (out rest : Str) (opn : Bool) (j : Int) (x n : Int) (J : St → Prop) (K : D → Prop) : runS (En Tryd.f41) (fi Tryd.f41 K) (nrD2s ) lvRD2 200 [.code [1, 1, 1, 1, 0, 1, 0, 0, 1, 0, 0, 1, 1, 1, 1, 1, 1, 1, 1], .blk 1, .code [1, 1, 1, 1, 0, 1, 0, 0, 1, 1], stp [2, 3, 4, 5, 6, 11, 12, 13, 14, 15] J, .blk 0, .code [1, 1, 1, 1, 1]] ⟨[(2, I a), (3, I sp), (4, I cols), (5, .own [L w.sig 3 Sig.d, L w.gap 2 Iv.d, I w.fin]), (6, .own [I l.sig, .str l.lab, I l.base]), (11, .own [I q.kind, I q.width, L q.chg 2 Chg.d]), (12, .str out), (13, .str rest), (14, B opn), (15, I j), (16, I x), (19, I n)], .empty⟩ =
  (bif decide (n > 0) then ((0 ≤ if 2 < n then 2 else n) ∧ (if 2 < n then 2 else n) < (↑3 : Int)) ∧ List.length out + ([{ data := #[] : ByteArray }.data.toList, { data := #[124] : ByteArray }.data.toList, { data := #[35] : ByteArray }.data.toList].getD (if 2 < n then 2 else n).toNat default).length ≤ strM ∧ J { sl := [(2, I a), (3, I sp), (4, I cols), (5, .own [L w.sig 3 Sig.d, L w.gap 2 Iv.d, I w.fin]), (6, .own [I l.sig, .str l.lab, I l.base]), (11, .own [I q.kind, I q.width, L q.chg 2 Chg.d]), (12, .str (out ++ [{ data := #[] : ByteArray }.data.toList, { data := #[124] : ByteArray }.data.toList, { data := #[35] : ByteArray }.data.toList].getD (if 2 < n then 2 else n).toNat default)), (13, .str rest), (14, B false), (15, I (addI .i64 j 1))], h := Heap.empty : St }
 else bif !opn then At (En Tryd.f41) (fi Tryd.f41 K) [It.code [1, 1, 1, 1, 0, 1, 0, 0, 1, 0, 0, 1, 1, 1, 1, 1, 1, 1, 1, 1, 0, 1, 0, 1, 0, 0], It.blk 2, It.code [1, 1, 1, 1, 0, 1, 0, 0, 1, 0, 0, 1, 1, 1, 1, 1, 1, 1, 1, 1, 0, 1, 0, 1, 1], It.code [1, 1, 1, 1, 0, 1, 0, 0, 1, 0, 0, 1, 1, 1, 1, 1, 1, 1, 1, 1, 1], It.blk 1, It.code [1, 1, 1, 1, 0, 1, 0, 0, 1, 1], stp [2, 3, 4, 5, 6, 11, 12, 13, 14, 15] J, It.blk 0, It.code [1, 1, 1, 1, 1]] { sl := [(2, I a), (3, I sp), (4, I cols), (5, .own [L w.sig 3 Sig.d, L w.gap 2 Iv.d, I w.fin]), (6, .own [I l.sig, .str l.lab, I l.base]), (11, .own [I q.kind, I q.width, L q.chg 2 Chg.d]), (12, .str out), (15, I j), (16, I x), (21, I 1)], h := Heap.empty : St } else At (En Tryd.f41) (fi Tryd.f41 K) [It.code [1, 1, 1, 1, 0, 1, 0, 0, 1, 0, 0, 1, 1, 1, 1, 1, 1, 1, 1, 1, 1], It.blk 1, It.code [1, 1, 1, 1, 0, 1, 0, 0, 1, 1], stp [2, 3, 4, 5, 6, 11, 12, 13, 14, 15] J, It.blk 0, It.code [1, 1, 1, 1, 1]] { sl := [(2, I a), (3, I sp), (4, I cols), (5, .own [L w.sig 3 Sig.d, L w.gap 2 Iv.d, I w.fin]), (6, .own [I l.sig, .str l.lab, I l.base]), (11, .own [I q.kind, I q.width, L q.chg 2 Chg.d]), (12, .str out), (13, .str rest), (14, B opn), (15, I j)], h := Heap.empty : St }) := by kernel_rfl
noncomputable def nrGs  : List Nat → Nat → Option Ans := scrAt []
theorem nrG [Lay] (w : Wv) (l : Ln) (q : Sig) (a sp cols : Int) (out rest : Str) (opn : Bool) (j : Int) (J : St → Prop) (K : D → Prop) : runS (En Tryd.f41) (fi Tryd.f41 K) (nrGs ) lv41 200 [.code [1, 1, 1, 1, 0, 1, 0, 0, 1, 0, 0, 1, 1, 1, 1, 1, 1, 1, 1, 1, 1], .blk 1, .code [1, 1, 1, 1, 0, 1, 0, 0, 1, 1], stp [2, 3, 4, 5, 6, 11, 12, 13, 14, 15] J, .blk 0, .code [1, 1, 1, 1, 1]] ⟨[(2, I a), (3, I sp), (4, I cols), (5, .own [L w.sig 3 Sig.d, L w.gap 2 Iv.d, I w.fin]), (6, .own [I l.sig, .str l.lab, I l.base]), (11, .own [I q.kind, I q.width, L q.chg 2 Chg.d]), (12, .str out), (13, .str rest), (14, B opn), (15, I j)], .empty⟩ =
  (((0 : Int) ≤ 0 ∧ (0 : Int) ≤ 1 ∧ 1 ≤ (↑(List.length rest) : Int)) ∧ List.length out + (List.drop 0 (List.take 1 rest)).length ≤ strM ∧ ((0 : Int) ≤ 1 ∧ 1 ≤ (↑(List.length rest) : Int)) ∧ J { sl := [(2, I a), (3, I sp), (4, I cols), (5, .own [L w.sig 3 Sig.d, L w.gap 2 Iv.d, I w.fin]), (6, .own [I l.sig, .str l.lab, I l.base]), (11, .own [I q.kind, I q.width, L q.chg 2 Chg.d]), (12, .str (out ++ List.drop 0 (List.take 1 rest))), (13, .str (List.drop 1 rest)), (14, B opn), (15, I (addI .i64 j 1))], h := Heap.empty : St }) := by kernel_rfl
noncomputable def nrEs (w : Wv) (q : Sig) (a : Int) (sp : Int) (j : Int) (r : Int) : List Nat → Nat → Option Ans := scrAt [([1, 1, 1, 1, 0, 1, 0, 0, 1, 0, 0, 1, 1, 1, 1, 1, 1, 1, 1, 1, 0, 1, 0, 1, 0, 0, 0, 1, 0, 1, 0, 0], 9, Ans.pure [q.d, I (addI .i64 a (mulI .i64 (addI .i64 j r) sp)), I (if w.fin < subI .i64 (addI .i64 (addI .i64 a (mulI .i64 (addI .i64 j r) sp)) sp) 1 then w.fin else subI .i64 (addI .i64 (addI .i64 a (mulI .i64 (addI .i64 j r) sp)) sp) 1)] (.tup [I (↑(cntR q.chg (addI .i64 a (mulI .i64 (addI .i64 j r) sp)) (if w.fin < subI .i64 (addI .i64 (addI .i64 a (mulI .i64 (addI .i64 j r) sp)) sp) 1 then w.fin else subI .i64 (addI .i64 (addI .i64 a (mulI .i64 (addI .i64 j r) sp)) sp) 1)) : Int), .str (lastV q.chg (addI .i64 a (mulI .i64 (addI .i64 j r) sp)) (if w.fin < subI .i64 (addI .i64 (addI .i64 a (mulI .i64 (addI .i64 j r) sp)) sp) 1 then w.fin else subI .i64 (addI .i64 (addI .i64 a (mulI .i64 (addI .i64 j r) sp)) sp) 1))]))]
theorem nrE [Lay] (w : Wv) (l : Ln) (q : Sig) (a sp cols : Int) (out : Str) (j x r : Int) (J J2 : St → Prop) (K : D → Prop) : runS (En Tryd.f41) (fi Tryd.f41 K) (nrEs w q a sp j r) lvRE 200 [.code [1, 1, 1, 1, 0, 1, 0, 0, 1, 0, 0, 1, 1, 1, 1, 1, 1, 1, 1, 1, 0, 1, 0, 1, 0, 0, 0], stp [2, 3, 4, 5, 6, 11, 12, 15, 16, 21] J, .blk 2, .code [1, 1, 1, 1, 0, 1, 0, 0, 1, 0, 0, 1, 1, 1, 1, 1, 1, 1, 1, 1, 0, 1, 0, 1, 1], .code [1, 1, 1, 1, 0, 1, 0, 0, 1, 0, 0, 1, 1, 1, 1, 1, 1, 1, 1, 1, 1], .blk 1, .code [1, 1, 1, 1, 0, 1, 0, 0, 1, 1], stp [2, 3, 4, 5, 6, 11, 12, 13, 14, 15] J2, .blk 0, .code [1, 1, 1, 1, 1]] (Srl2 w l q a sp cols out j x r) =
  (bif bif decide (addI .i64 j r < cols) then decide (addI .i64 a (mulI .i64 (addI .i64 j r) sp) ≤ w.fin) else false then
  PureW PP 70 [q.d, I (addI .i64 a (mulI .i64 (addI .i64 j r) sp)), I (if w.fin < subI .i64 (addI .i64 (addI .i64 a (mulI .i64 (addI .i64 j r) sp)) sp) 1 then w.fin else subI .i64 (addI .i64 (addI .i64 a (mulI .i64 (addI .i64 j r) sp)) sp) 1)] [q.d, I (addI .i64 a (mulI .i64 (addI .i64 j r) sp)), I (if w.fin < subI .i64 (addI .i64 (addI .i64 a (mulI .i64 (addI .i64 j r) sp)) sp) 1 then w.fin else subI .i64 (addI .i64 (addI .i64 a (mulI .i64 (addI .i64 j r) sp)) sp) 1)] (.tup [I (↑(cntR q.chg (addI .i64 a (mulI .i64 (addI .i64 j r) sp)) (if w.fin < subI .i64 (addI .i64 (addI .i64 a (mulI .i64 (addI .i64 j r) sp)) sp) 1 then w.fin else subI .i64 (addI .i64 (addI .i64 a (mulI .i64 (addI .i64 j r) sp)) sp) 1)) : Int), .str (lastV q.chg (addI .i64 a (mulI .i64 (addI .i64 j r) sp)) (if w.fin < subI .i64 (addI .i64 (addI .i64 a (mulI .i64 (addI .i64 j r) sp)) sp) 1 then w.fin else subI .i64 (addI .i64 (addI .i64 a (mulI .i64 (addI .i64 j r) sp)) sp) 1))]) ∧
    bif decide ((↑(cntR q.chg (addI .i64 a (mulI .i64 (addI .i64 j r) sp)) (if w.fin < subI .i64 (addI .i64 (addI .i64 a (mulI .i64 (addI .i64 j r) sp)) sp) 1 then w.fin else subI .i64 (addI .i64 (addI .i64 a (mulI .i64 (addI .i64 j r) sp)) sp) 1)) : Int) > 0) then At (En Tryd.f41) (fi Tryd.f41 K) [It.code [1, 1, 1, 1, 0, 1, 0, 0, 1, 0, 0, 1, 1, 1, 1, 1, 1, 1, 1, 1, 0, 1, 0, 1, 1], It.code [1, 1, 1, 1, 0, 1, 0, 0, 1, 0, 0, 1, 1, 1, 1, 1, 1, 1, 1, 1, 1], It.blk 1, It.code [1, 1, 1, 1, 0, 1, 0, 0, 1, 1], stp [2, 3, 4, 5, 6, 11, 12, 13, 14, 15] J2, It.blk 0, It.code [1, 1, 1, 1, 1]] { sl := [(2, I a), (3, I sp), (4, I cols), (5, .own [L w.sig 3 Sig.d, L w.gap 2 Iv.d, I w.fin]), (6, .own [I l.sig, .str l.lab, I l.base]), (11, .own [I q.kind, I q.width, L q.chg 2 Chg.d]), (12, .str out), (15, I j), (16, I x), (21, I r)], h := Heap.empty : St } else J { sl := [(2, I a), (3, I sp), (4, I cols), (5, .own [L w.sig 3 Sig.d, L w.gap 2 Iv.d, I w.fin]), (6, .own [I l.sig, .str l.lab, I l.base]), (11, .own [I q.kind, I q.width, L q.chg 2 Chg.d]), (12, .str out), (15, I j), (16, I x), (21, I (addI .i64 r 1))], h := Heap.empty : St }
 else At (En Tryd.f41) (fi Tryd.f41 K) [It.code [1, 1, 1, 1, 0, 1, 0, 0, 1, 0, 0, 1, 1, 1, 1, 1, 1, 1, 1, 1, 0, 1, 0, 1, 1], It.code [1, 1, 1, 1, 0, 1, 0, 0, 1, 0, 0, 1, 1, 1, 1, 1, 1, 1, 1, 1, 1], It.blk 1, It.code [1, 1, 1, 1, 0, 1, 0, 0, 1, 1], stp [2, 3, 4, 5, 6, 11, 12, 13, 14, 15] J2, It.blk 0, It.code [1, 1, 1, 1, 1]] { sl := [(2, I a), (3, I sp), (4, I cols), (5, .own [L w.sig 3 Sig.d, L w.gap 2 Iv.d, I w.fin]), (6, .own [I l.sig, .str l.lab, I l.base]), (11, .own [I q.kind, I q.width, L q.chg 2 Chg.d]), (12, .str out), (15, I j), (16, I x), (21, I r)], h := Heap.empty : St }) := by kernel_rfl
noncomputable def lvRF : List (List Nat × List Nat) := [([1, 1, 1, 1, 0, 1, 0, 0, 1, 0, 0, 1, 1, 1, 1, 1, 1, 1, 1, 1, 0, 1, 0, 1, 1, 1, 1], [2, 3, 4, 5, 6, 11, 12, 13, 14, 15, 21]), ([1, 1, 1, 1, 0, 1, 0, 0, 1, 0, 0, 1, 1, 1, 1, 1, 1, 1, 1, 1, 1], [2, 3, 4, 5, 6, 11, 12, 13, 14, 15])]
noncomputable def nrFs (l : Ln) (q : Sig) (x : Int) : List Nat → Nat → Option Ans := scrAt [([1, 1, 1, 1, 0, 1, 0, 0, 1, 0, 0, 1, 1, 1, 1, 1, 1, 1, 1, 1, 0, 1, 0, 1, 1, 0], 3, Ans.pure [q.d, I x] (.str (sigAt q x))), ([1, 1, 1, 1, 0, 1, 0, 0, 1, 0, 0, 1, 1, 1, 1, 1, 1, 1, 1, 1, 0, 1, 0, 1, 1, 0], 6, Ans.pure [q.d, .str (sigAt q x), I l.base] (.str (txR q.kind l.base (sigAt q x))))]
theorem nrF [Lay] (w : Wv) (l : Ln) (q : Sig) (a sp cols : Int) (out : Str) (j x r : Int) (J : St → Prop) (K : D → Prop) : runS (En Tryd.f41) (fi Tryd.f41 K) (nrFs l q x) lvRF 200 [.code [1, 1, 1, 1, 0, 1, 0, 0, 1, 0, 0, 1, 1, 1, 1, 1, 1, 1, 1, 1, 0, 1, 0, 1, 1], .code [1, 1, 1, 1, 0, 1, 0, 0, 1, 0, 0, 1, 1, 1, 1, 1, 1, 1, 1, 1, 1], .blk 1, .code [1, 1, 1, 1, 0, 1, 0, 0, 1, 1], stp [2, 3, 4, 5, 6, 11, 12, 13, 14, 15] J, .blk 0, .code [1, 1, 1, 1, 1]] (Srl2 w l q a sp cols out j x r) =
  (PureW PP 15 [q.d, I x] [q.d, I x] (.str (sigAt q x)) ∧
  PureW PP 71 [q.d, .str (sigAt q x), I l.base] [q.d, .str (sigAt q x), I l.base] (.str (txR q.kind l.base (sigAt q x))) ∧
    (List.length (txR q.kind l.base (sigAt q x)) ≤ strM →
      bif decide ((↑(List.length (txR q.kind l.base (sigAt q x))) : Int) > r) then ((0 : Int) ≤ 0 ∧ 0 ≤ subI .i64 r 1 ∧ subI .i64 r 1 ≤ (↑(List.length (txR q.kind l.base (sigAt q x))) : Int)) ∧ (List.drop 0 (List.take (subI .i64 r 1).toNat (txR q.kind l.base (sigAt q x)))).length + 1 ≤ strM ∧ At (En Tryd.f41) (fi Tryd.f41 K) [It.code [1, 1, 1, 1, 0, 1, 0, 0, 1, 0, 0, 1, 1, 1, 1, 1, 1, 1, 1, 1, 0, 1, 0, 1, 1, 1, 1], It.code [1, 1, 1, 1, 0, 1, 0, 0, 1, 0, 0, 1, 1, 1, 1, 1, 1, 1, 1, 1, 1], It.blk 1, It.code [1, 1, 1, 1, 0, 1, 0, 0, 1, 1], stp [2, 3, 4, 5, 6, 11, 12, 13, 14, 15] J, It.blk 0, It.code [1, 1, 1, 1, 1]] { sl := [(2, I a), (3, I sp), (4, I cols), (5, .own [L w.sig 3 Sig.d, L w.gap 2 Iv.d, I w.fin]), (6, .own [I l.sig, .str l.lab, I l.base]), (11, .own [I q.kind, I q.width, L q.chg 2 Chg.d]), (12, .str out), (13, .str (List.drop 0 (List.take (subI .i64 r 1).toNat (txR q.kind l.base (sigAt q x))) ++ { data := #[126] : ByteArray }.data.toList)), (14, B true), (15, I j), (21, I r)], h := Heap.empty : St }
      else At (En Tryd.f41) (fi Tryd.f41 K) [It.code [1, 1, 1, 1, 0, 1, 0, 0, 1, 0, 0, 1, 1, 1, 1, 1, 1, 1, 1, 1, 0, 1, 0, 1, 1, 1, 1], It.code [1, 1, 1, 1, 0, 1, 0, 0, 1, 0, 0, 1, 1, 1, 1, 1, 1, 1, 1, 1, 1], It.blk 1, It.code [1, 1, 1, 1, 0, 1, 0, 0, 1, 1], stp [2, 3, 4, 5, 6, 11, 12, 13, 14, 15] J, It.blk 0, It.code [1, 1, 1, 1, 1]] { sl := [(2, I a), (3, I sp), (4, I cols), (5, .own [L w.sig 3 Sig.d, L w.gap 2 Iv.d, I w.fin]), (6, .own [I l.sig, .str l.lab, I l.base]), (11, .own [I q.kind, I q.width, L q.chg 2 Chg.d]), (12, .str out), (13, .str (txR q.kind l.base (sigAt q x))), (14, B true), (15, I j), (21, I r)], h := Heap.empty : St })) := by kernel_rfl
noncomputable def nrF2s (rest : Str) (r : Int) : List Nat → Nat → Option Ans := scrAt [([1, 1, 1, 1, 0, 1, 0, 0, 1, 0, 0, 1, 1, 1, 1, 1, 1, 1, 1, 1, 0, 1, 0, 1, 1, 1, 1], 5, Ans.pure [I (subI .i64 r (↑(List.length rest) : Int))] (.str (blk (subI .i64 r (↑(List.length rest) : Int)).toNat)))]
theorem nrF2 [Lay] (w : Wv) (l : Ln) (q : Sig) (a sp cols : Int) (out rest : Str) (opn : Bool) (j r : Int) (J : St → Prop) (K : D → Prop) : runS (En Tryd.f41) (fi Tryd.f41 K) (nrF2s rest r) lvRD2 200 [.code [1, 1, 1, 1, 0, 1, 0, 0, 1, 0, 0, 1, 1, 1, 1, 1, 1, 1, 1, 1, 0, 1, 0, 1, 1, 1, 1], .code [1, 1, 1, 1, 0, 1, 0, 0, 1, 0, 0, 1, 1, 1, 1, 1, 1, 1, 1, 1, 1], .blk 1, .code [1, 1, 1, 1, 0, 1, 0, 0, 1, 1], stp [2, 3, 4, 5, 6, 11, 12, 13, 14, 15] J, .blk 0, .code [1, 1, 1, 1, 1]] ⟨[(2, I a), (3, I sp), (4, I cols), (5, .own [L w.sig 3 Sig.d, L w.gap 2 Iv.d, I w.fin]), (6, .own [I l.sig, .str l.lab, I l.base]), (11, .own [I q.kind, I q.width, L q.chg 2 Chg.d]), (12, .str out), (13, .str rest), (14, B opn), (15, I j), (21, I r)], .empty⟩ =
  (List.length rest ≤ strM → PureW PP 49 [I (subI .i64 r (↑(List.length rest) : Int))] [I (subI .i64 r (↑(List.length rest) : Int))] (.str (blk (subI .i64 r (↑(List.length rest) : Int)).toNat)) ∧ List.length rest + List.length (blk (subI .i64 r (↑(List.length rest) : Int)).toNat) ≤ strM ∧ At (En Tryd.f41) (fi Tryd.f41 K) [It.code [1, 1, 1, 1, 0, 1, 0, 0, 1, 0, 0, 1, 1, 1, 1, 1, 1, 1, 1, 1, 1], It.blk 1, It.code [1, 1, 1, 1, 0, 1, 0, 0, 1, 1], stp [2, 3, 4, 5, 6, 11, 12, 13, 14, 15] J, It.blk 0, It.code [1, 1, 1, 1, 1]] { sl := [(2, I a), (3, I sp), (4, I cols), (5, .own [L w.sig 3 Sig.d, L w.gap 2 Iv.d, I w.fin]), (6, .own [I l.sig, .str l.lab, I l.base]), (11, .own [I q.kind, I q.width, L q.chg 2 Chg.d]), (12, .str out), (13, .str (rest ++ blk (subI .i64 r (↑(List.length rest) : Int)).toNat)), (14, B opn), (15, I j)], h := Heap.empty : St }) := by kernel_rfl
end Go.Proofs.YtpcbjkjgjoemaaaDoor.S1
/- Lines: the reference's columns are the code's; plain law. -/
namespace Go.Proofs.YtpcbjkjgjoemaaaDoor.S1
open Go Go.Ab Go.Proofs
/-- The reference's columns from x on. -/
def refS (q : Sig) (base a til sp fin : Int) : Nat → Int → Str → Bool → Str
  | 0, _, _, _ => []
  | k + 1, x, rest, opn =>
    if x > fin then 32 :: refS q base a til sp fin k (x + sp) rest opn
    else if q.kind = 0 ∧ q.width = 1 then bitRf q x (hiC x sp fin) ++ refS q base a til sp fin k (x + sp) rest opn
    else if q.kind = 3 then evCh (cntR q.chg x (hiC x sp fin)) :: refS q base a til sp fin k (x + sp) rest opn
    else if 0 < cntR (cut q.chg a til) x (hiC x sp fin) then busCh (cntR (cut q.chg a til) x (hiC x sp fin)) :: refS q base a til sp fin k (x + sp) rest false
    else if opn = true then rest.getD 0 default :: refS q base a til sp fin k (x + sp) (rest.drop 1) true
    else (fitS (txR q.kind base (sigAt q x)) (1 + quL (cut q.chg a til) sp fin k (x + sp))).getD 0 default :: refS q base a til sp fin k (x + sp) ((fitS (txR q.kind base (sigAt q x)) (1 + quL (cut q.chg a til) sp fin k (x + sp))).drop 1) true
theorem blk_succ (k : Nat) : blk (k + 1) = 32 :: blk k := by unfold blk; rw [List.replicate_succ]
theorem refS_blank (q : Sig) (base a til : Int) {sp fin : Int} (h1 : 1 ≤ sp) : ∀ (k : Nat) (x : Int) (rest : Str) (opn : Bool), x > fin → refS q base a til sp fin k x rest opn = blk k
  | 0, _, _, _, _ => rfl
  | k + 1, x, rest, opn, h => by rw [refS, if_pos h, refS_blank q base a til h1 k (x + sp) rest opn (by omega), blk_succ]
theorem cntR_cut (l : List Chg) {a til x y : Int} (hy : y ≤ til) : cntR (cut l a til) x y = cntR l (max x (a + 1)) y := by
  unfold cntR cut
  rw [List.filter_filter]
  congr 1
  refine List.filter_congr fun z _ => ?_
  rw [Bool.eq_iff_iff]
  simp only [Bool.and_eq_true, decide_eq_true_eq]
  omega
theorem cntR_cons (x : Chg) (r : List Chg) (a b : Int) : cntR (x :: r) a b = (if x.time ≥ a ∧ x.time ≤ b then 1 else 0) + cntR r a b := by
  unfold cntR
  rw [List.filter_cons]
  by_cases h : x.time ≥ a ∧ x.time ≤ b
  · rw [if_pos h, decide_eq_true h.1, decide_eq_true h.2, Bool.and_self, if_pos rfl, List.length_cons]; omega
  · rw [if_neg h, if_neg (by simpa using h)]; omega
theorem cntR_zero {l : List Chg} {a b : Int} (h : ∀ x ∈ l, b < x.time) : cntR l a b = 0 := by
  unfold cntR
  rw [List.filter_eq_nil_iff.2 fun x hx => by have := h x hx; simp; omega]; rfl
theorem lastV_at (a b : Int) : ∀ {l : List Chg} {s : Int} (_ : Inc s l) (u v : Str), l.foldl (fun v x => if x.time ≥ a ∧ x.time ≤ b then x.val else v) u = if cntR l a b = 0 then u else valAt v l b
  | [], _, _, _, _ => rfl
  | x :: r, s, ⟨h1, h2⟩, u, v => by
    rw [List.foldl_cons, cntR_cons, valAt_cons]
    by_cases hb : x.time ≤ b
    · rw [decide_eq_true hb, cond_true]
      by_cases ha : x.time ≥ a
      · rw [if_pos (c := x.time ≥ a ∧ x.time ≤ b) ⟨ha, hb⟩, if_pos (c := x.time ≥ a ∧ x.time ≤ b) ⟨ha, hb⟩, lastV_at a b h2 x.val x.val, if_neg (show ¬ 1 + cntR r a b = 0 by omega)]
        by_cases hz : cntR r a b = 0
        · rw [if_pos hz]
          refine (valAt_gt r x.val b fun y hy => ?_).symm
          have hg := h2.gt y hy
          rcases Decidable.em (b < y.time) with h | h
          · exact h
          · have : y ∈ r.filter (fun x => decide (x.time ≥ a) && decide (x.time ≤ b)) := List.mem_filter.2 ⟨hy, by simp; omega⟩
            unfold cntR at hz
            rw [List.length_eq_zero_iff.1 hz] at this
            cases this
        · rw [if_neg hz]
      · rw [if_neg (c := x.time ≥ a ∧ x.time ≤ b) (fun h => ha h.1), if_neg (c := x.time ≥ a ∧ x.time ≤ b) (fun h => ha h.1), lastV_at a b h2 u x.val, Nat.zero_add]
    · rw [decide_eq_false hb, cond_false, if_neg (c := x.time ≥ a ∧ x.time ≤ b) (fun h => hb h.2), if_neg (c := x.time ≥ a ∧ x.time ≤ b) (fun h => hb h.2), lastV_at a b h2 u v, Nat.zero_add]
theorem bitVal {q : Sig} {v : Str} (h0 : q.kind = 0) (h1 : q.width = 1) (h : vlOk q v = true) : v = [48] ∨ v = [49] ∨ v = [120] ∨ v = [122] := by
  unfold vlOk at h
  have e1 : (q.kind == 3) = false := by rw [h0]; rfl
  have e2 : (q.kind == 0) = true := by rw [h0]; rfl
  rw [e1, e2] at h
  simp only [cond_false, cond_true, Bool.and_eq_true, beq_iff_eq] at h
  obtain ⟨ha, hl⟩ := h
  rw [h1] at hl
  match v, hl with
  | [b], _ =>
    have hb : byteBad b = false := by simpa using ha
    unfold byteBad at hb
    rw [bxz b] at hb
    have hb : xz01.contains b = true := by simpa using hb
    have : b = 48 ∨ b = 49 ∨ b = 120 ∨ b = 122 := by simpa [xz01, List.contains_cons] using hb
    rcases this with rfl | rfl | rfl | rfl <;> simp
  | [], hl => simp at hl
  | _ :: _ :: _, hl => simp at hl; omega
theorem lvR_lvl {v : Str} (h : v = [48] ∨ v = [49] ∨ v = [120] ∨ v = [122]) : lvR v = [lvl v] := by
  rcases h with rfl | rfl | rfl | rfl <;> rfl
theorem SmD.bitAt {w : Wv} (h : SmD w) {q : Sig} (hq : q ∈ w.sig) (h0 : q.kind = 0) (h1 : q.width = 1) (t : Int) : sigAt q t = [48] ∨ sigAt q t = [49] ∨ sigAt q t = [120] ∨ sigAt q t = [122] := by
  unfold sigAt
  rw [if_neg (by omega)]
  rcases valAt_mem q.chg (ini q) t with e | ⟨x, hx, e, _⟩
  · rw [e]
    unfold ini
    rw [if_neg (by omega), if_pos h0, h1]
    exact .inr (.inr (.inl rfl))
  · rw [e]; exact bitVal h0 h1 (h.vl q hq x hx).1
theorem bitRf_ch {w : Wv} (h : SmD w) {q : Sig} (hq : q ∈ w.sig) (h0 : q.kind = 0) (h1 : q.width = 1) {a til x y : Int} (hx : a ≤ x) (hxy : x ≤ y) (hy : y ≤ til) : bitRf q x y = [bitCh (sigAt q a) (cut q.chg a til) x y] := by
  have hk : q.kind ≠ 3 := by omega
  obtain ⟨_, _, _, _, hc, _, _⟩ := (h.inc hq).cut3 (show a ≤ til by omega)
  have ex : curV (sigAt q a) (cut q.chg a til) (nLe (cut q.chg a til) x) = sigAt q x := by
    rw [← curV_valAt hc, sigAt_cut h hq hk hx (by omega)]
  have ey : curV (sigAt q a) (cut q.chg a til) (nLe (cut q.chg a til) y) = sigAt q y := by
    rw [← curV_valAt hc, sigAt_cut h hq hk (by omega) hy]
  have hn : cntR q.chg (x + 1) y = nLe (cut q.chg a til) y - nLe (cut q.chg a til) x := by
    have e1 := cntR_cut q.chg (a := a) (x := x + 1) hy
    rw [show max (x + 1) (a + 1) = x + 1 by omega] at e1
    rw [← e1, cntR_nLe _ _ _ (by omega)]
    congr 2
    omega
  unfold bitCh
  rw [ex, ey, ← hn]
  unfold bitRf bitC
  by_cases c0 : cntR q.chg (x + 1) y = 0
  · rw [if_pos c0, if_neg (by omega), if_pos c0, lvR_lvl (h.bitAt hq h0 h1 x)]
  rw [if_neg c0]
  by_cases c1 : 1 < cntR q.chg (x + 1) y
  · rw [if_pos c1, if_pos c1]
  rw [if_neg c1, if_neg c1, if_neg c0]
  have hl : lastV q.chg (x + 1) y = sigAt q y := by
    unfold lastV
    rw [lastV_at (x + 1) y (h.inc hq) [] (ini q), if_neg c0]
    unfold sigAt
    rw [if_neg hk]
  rw [hl]
  split
  · rfl
  · split <;> rfl
theorem hi_le {x sp fin E til : Int} (h : x + sp ≤ E) (ht : til = min (E - 1) fin) : hiC x sp fin ≤ til := by unfold hiC; omega
theorem refS_bit {w : Wv} (h : SmD w) {q : Sig} (hq : q ∈ w.sig) (h0 : q.kind = 0) (h1 : q.width = 1) (base : Int) {a til sp fin E : Int} (hs : 1 ≤ sp) (ht : til = min (E - 1) fin) : ∀ (k : Nat) (x : Int) (rest : Str) (opn : Bool), a ≤ x → x + (k : Int) * sp ≤ E →
    refS q base a til sp fin k x rest opn = bitS (sigAt q a) (cut q.chg a til) sp fin k x ++ blk (k - nCol sp fin k x)
  | 0, _, _, _, _, _ => rfl
  | k + 1, x, rest, opn, hx, hE => by
    rw [mulS] at hE
    have hkk : 0 ≤ (k : Int) * sp := Int.mul_nonneg (by omega) (by omega)
    unfold bitS
    rw [colS, nCol]
    by_cases hf : x > fin
    · rw [refS_blank q base a til hs _ _ _ _ hf, if_pos hf, if_pos hf]; rfl
    rw [refS, if_neg hf, if_neg hf, if_neg hf, if_pos ⟨h0, h1⟩, refS_bit h hq h0 h1 base hs ht k (x + sp) rest opn (by omega) (by omega)]
    rw [bitRf_ch h hq h0 h1 hx (show x ≤ hiC x sp fin by unfold hiC; omega) (hi_le (by omega) ht)]
    have := nCol_le sp fin k (x + sp)
    rw [show k + 1 - (1 + nCol sp fin k (x + sp)) = k - nCol sp fin k (x + sp) by omega]
    rfl
theorem refS_ev {q : Sig} (h0 : q.kind = 3) (base : Int) {a til sp fin E : Int} (hs : 1 ≤ sp) (ht : til = min (E - 1) fin) : ∀ (k : Nat) (x : Int) (rest : Str) (opn : Bool), a ≤ x → x + (k : Int) * sp ≤ E →
    refS q base a til sp fin k x rest opn = evS (inR q.chg a til) sp fin k x ++ blk (k - nCol sp fin k x)
  | 0, _, _, _, _, _ => rfl
  | k + 1, x, rest, opn, hx, hE => by
    rw [mulS] at hE
    have hkk : 0 ≤ (k : Int) * sp := Int.mul_nonneg (by omega) (by omega)
    unfold evS
    rw [colS, nCol]
    by_cases hf : x > fin
    · rw [refS_blank q base a til hs _ _ _ _ hf, if_pos hf, if_pos hf]; rfl
    have hy := hi_le (x := x) (sp := sp) (fin := fin) (show x + sp ≤ E by omega) ht
    have hc : cntR (inR q.chg a til) x (hiC x sp fin) = cntR q.chg x (hiC x sp fin) := by
      unfold cntR inR
      rw [List.filter_filter]
      congr 1
      refine List.filter_congr fun z _ => ?_
      rw [Bool.eq_iff_iff]
      simp only [Bool.and_eq_true, decide_eq_true_eq]
      omega
    rw [refS, if_neg hf, if_neg hf, if_neg hf, if_neg (by omega), if_pos h0, refS_ev h0 base hs ht k (x + sp) rest opn (by omega) (by omega), hc]
    have := nCol_le sp fin k (x + sp)
    rw [show k + 1 - (1 + nCol sp fin k (x + sp)) = k - nCol sp fin k (x + sp) by omega]
    rfl
theorem rbusS_blank (tx : Str → Str) (v : Str) (c : List Chg) {sp fin : Int} (k : Nat) (x : Int) (rest : Str) (opn : Bool) (h : x > fin) : rbusS tx v c sp fin k x rest opn = [] := by
  cases k with
  | zero => rw [rbusS]
  | succ k => rw [rbusS, if_pos h]
theorem txR_txF {k base : Int} (h : 0 ≤ k ∧ k ≤ 2) : txR k base = txF k base := by
  funext v
  unfold txR txF
  by_cases h0 : k = 0
  · rw [if_pos h0, if_pos h0]
  rw [if_neg h0, if_neg h0]
  by_cases h1 : k = 1
  · rw [if_neg (by omega), if_pos h1]
  · rw [if_pos (by omega), if_neg h1]
theorem refS_bus {w : Wv} (h : SmD w) {q : Sig} (hq : q ∈ w.sig) (hb : ¬ (q.kind = 0 ∧ q.width = 1)) (hk : q.kind ≠ 3) (base : Int) {a til sp fin E : Int} (hs : 1 ≤ sp) (ht : til = min (E - 1) fin) : ∀ (k : Nat) (x : Int) (rest : Str) (opn : Bool), a ≤ x → x + (k : Int) * sp ≤ E →
    refS q base a til sp fin k x rest opn = rbusS (txF q.kind base) (sigAt q a) (cut q.chg a til) sp fin k x rest opn ++ blk (k - nCol sp fin k x)
  | 0, _, _, _, _, _ => rfl
  | k + 1, x, rest, opn, hx, hE => by
    rw [mulS] at hE
    have hkk : 0 ≤ (k : Int) * sp := Int.mul_nonneg (by omega) (by omega)
    rw [nCol]
    by_cases hf : x > fin
    · rw [refS_blank q base a til hs _ _ _ _ hf, rbusS_blank _ _ _ _ _ _ _ hf, if_pos hf]; rfl
    have hy := hi_le (x := x) (sp := sp) (fin := fin) (show x + sp ≤ E by omega) ht
    have hxy : x ≤ hiC x sp fin := by unfold hiC; omega
    obtain ⟨_, _, _, _, hc, _, _⟩ := (h.inc hq).cut3 (show a ≤ til by omega)
    have hkd := h.knd q hq
    have ex : curV (sigAt q a) (cut q.chg a til) (nLe (cut q.chg a til) x) = sigAt q x := by
      rw [← curV_valAt hc, sigAt_cut h hq hk hx (by omega)]
    have := nCol_le sp fin k (x + sp)
    rw [if_neg hf, refS, rbusS, if_neg hf, if_neg hf, if_neg hb, if_neg hk, ex, txR_txF ⟨hkd.1, by omega⟩]
    rw [show k + 1 - (1 + nCol sp fin k (x + sp)) = k - nCol sp fin k (x + sp) by omega]
    have ih := refS_bus h hq hb hk base (a := a) hs ht k (x + sp)
    by_cases hn : 0 < cntR (cut q.chg a til) x (hiC x sp fin)
    · rw [if_pos hn, if_pos hn, ih rest false (by omega) (by omega)]; rfl
    · rw [if_neg hn, if_neg hn]
      by_cases ho : opn = true
      · rw [if_pos ho, if_pos ho, ih _ true (by omega) (by omega)]; rfl
      · rw [if_neg ho, if_neg ho, ih _ true (by omega) (by omega)]; rfl
theorem refS_line {w : Wv} (h : SmD w) {q : Sig} (hq : q ∈ w.sig) (base : Int) {a sp cols fin : Int} (hs : 1 ≤ sp) (hc : 1 ≤ cols) (ha : a ≤ fin) : refS q base a (lastC a sp cols fin) sp fin cols.toNat a [] false = lineS q a sp cols fin base := by
  have ht : lastC a sp cols fin = min (a + cols * sp - 1) fin := rfl
  obtain ⟨hl1, _⟩ := lastC_ge (a := a) (stp := sp) (cols := cols) (fin := fin) hs hc ha
  have hE : a + ((cols.toNat : Nat) : Int) * sp ≤ a + cols * sp := by rw [show ((cols.toNat : Nat) : Int) = cols by omega]; exact Int.le_refl _
  unfold lineS
  rw [lineC_len]
  unfold lineC
  by_cases h3 : q.kind = 3
  · rw [if_pos h3]
    exact refS_ev h3 base hs ht cols.toNat a [] false (Int.le_refl _) hE
  rw [if_neg h3]
  by_cases hb : q.kind = 0 ∧ q.width = 1
  · rw [if_pos hb]
    exact refS_bit h hq hb.1 hb.2 base hs ht cols.toNat a [] false (Int.le_refl _) hE
  · rw [if_neg hb]
    have := refS_bus h hq hb h3 base hs ht cols.toNat a [] false (Int.le_refl _) hE
    rw [this]
    obtain ⟨_, _, _, _, hci, _, _⟩ := (h.inc hq).cut3 hl1
    have hb2 := (bus_both (txF q.kind base) (sigAt q a) hci (stp := sp) (fin := fin) hs cols.toNat a).1 []
    rw [hb2, nLe_zero fun x hx => by have := hci.gt x hx; omega]
end Go.Proofs.YtpcbjkjgjoemaaaDoor.S1
/- Lines: the reference's line, its contract. -/
namespace Go.Proofs.YtpcbjkjgjoemaaaDoor.S1
open Go Go.Ab Go.Proofs
theorem bitRf_len (q : Sig) (x y : Int) (h : (sigAt q x).length ≤ 64) : (bitRf q x y).length ≤ 64 := by
  unfold bitRf lvR
  split
  · split
    · simp
    · split
      · simp
      · exact h
  · split
    · simp
    · split
      · simp
      · split <;> simp
/-- The bounds of a drawing. -/
structure DrB (a sp cols fin : Int) : Prop where
  a0 : 0 ≤ a
  af : a ≤ fin
  fm : fin ≤ 1099511627776
  s1 : 1 ≤ sp
  sm : sp ≤ 1099511627776
  c1 : 1 ≤ cols
  cm : cols ≤ 200
theorem DrB.col {a sp cols fin : Int} (h : DrB a sp cols fin) {j : Nat} (hj : (j : Int) ≤ 200) : 0 ≤ (j : Int) * sp ∧ (j : Int) * sp ≤ 219902325555200 ∧ addI .i64 a (mulI .i64 (j : Int) sp) = a + (j : Int) * sp := by
  obtain ⟨a0, af, fm, s1, sm, c1, cm⟩ := h
  obtain ⟨m1, m2⟩ := mul_le (a := (j : Int)) (by omega) hj (show (0 : Int) ≤ sp by omega) sm
  refine ⟨m1, by omega, ?_⟩
  rw [mul64 (by omega) (by omega), add64 (by omega) (by omega)]
theorem DrB.hi {a sp cols fin x : Int} (h : DrB a sp cols fin) (h0 : 0 ≤ x) (hx : x ≤ 230000000000000) : (if fin < subI .i64 (addI .i64 x sp) 1 then fin else subI .i64 (addI .i64 x sp) 1) = hiC x sp fin := by
  obtain ⟨a0, af, fm, s1, sm, c1, cm⟩ := h
  rw [add64 (by omega) (by omega), sub64 (by omega) (by omega)]
  unfold hiC; omega
theorem ev3 (n : Nat) : ([{ data := #[46] : ByteArray }.data.toList, { data := #[33] : ByteArray }.data.toList, { data := #[35] : ByteArray }.data.toList] : List Str).getD (if 2 < (n : Int) then 2 else (n : Int)).toNat default = [evCh n] := by
  unfold evCh
  rcases n with _ | _ | n
  · rfl
  · rfl
  · have : (if 2 < ((n + 1 + 1 : Nat) : Int) then 2 else ((n + 1 + 1 : Nat) : Int)) = 2 := by split <;> omega
    rw [this, if_neg (by omega), if_neg (by omega)]; rfl
theorem bu3 {n : Nat} (h : 0 < n) : ([{ data := #[] : ByteArray }.data.toList, { data := #[124] : ByteArray }.data.toList, { data := #[35] : ByteArray }.data.toList] : List Str).getD (if 2 < (n : Int) then 2 else (n : Int)).toNat default = [busCh n] := by
  unfold busCh
  rcases n with _ | _ | n
  · omega
  · rfl
  · have : (if 2 < ((n + 1 + 1 : Nat) : Int) then 2 else ((n + 1 + 1 : Nat) : Int)) = 2 := by split <;> omega
    rw [this, if_neg (by omega)]; rfl
theorem txR_len (k base : Int) (v : Str) (h : v.length ≤ 1000) : (txR k base v).length ≤ 1000 := by
  unfold txR
  split
  · have := numR_len v base decR_len; omega
  · split
    · rw [List.length_map]; exact h
    · exact h
theorem take1 {z : Str} (h : 0 < z.length) : (z.take 1).drop 0 = [z.getD 0 default] := by
  cases z with
  | nil => simp at h
  | cons x r => rfl
abbrev rlTd (p : List Nat) (J : St → Prop) : List It := [.code p, .blk 1, .code [1, 1, 1, 1, 0, 1, 0, 0, 1, 1], stp [2, 3, 4, 5, 6, 11, 12, 13, 14, 15] J, .blk 0, .code [1, 1, 1, 1, 1]]
abbrev rlSl (w : Wv) (l : Ln) (q : Sig) (a sp cols : Int) (out rest : Str) (opn : Bool) (j : Int) (r : Slots) : Slots := (2, I a) :: (3, I sp) :: (4, I cols) :: (5, .own [L w.sig 3 Sig.d, L w.gap 2 Iv.d, I w.fin]) :: (6, .own [I l.sig, .str l.lab, I l.base]) :: (11, .own [I q.kind, I q.width, L q.chg 2 Chg.d]) :: (12, .str out) :: (13, .str rest) :: (14, B opn) :: (15, I j) :: r
theorem c41 [Lay] (w : Wv) (hw : SmD w) (l : Ln) (hs : 0 ≤ l.sig ∧ l.sig < (w.sig.length : Int)) (a sp cols : Int) (hd : DrB a sp cols w.fin) : Pure PP 41 [w.d, l.d, I a, I sp, I cols] (.str (lineS (sigOf w l.sig) a sp cols w.fin l.base)) := by
  have hm := sigMem hs
  have hd0 := hd
  obtain ⟨a0, af, fm, s1, sm, c1, cm⟩ := hd
  obtain ⟨hq1, hq2, hq3⟩ := hw.ok.at hs
  refine pu F41 (by kernel_rfl) (of_eq (nrl w l a sp cols _) ⟨hs, trivial, ?_⟩)
  rw [← refS_line hw hm l.base s1 c1 af]
  have hsg : w.sig.getD l.sig.toNat default = sigOf w l.sig := rfl
  rw [hsg]
  have hat := hw.atLen hm
  generalize sigOf w l.sig = q at *
  have ht : lastC a sp cols w.fin = min (a + cols * sp - 1) w.fin := rfl
  generalize lastC a sp cols w.fin = til at *
  refine lp (fn := Tryd.f41) (fun z : Nat × Str × Str × Bool => z.1 ≤ cols.toNat ∧ z.2.1.length ≤ 64 * z.1 ∧ z.2.2.1.length ≤ 200 ∧ refS q l.base a til sp w.fin cols.toNat a [] false = z.2.1 ++ refS q l.base a til sp w.fin (cols.toNat - z.1) (a + (z.1 : Int) * sp) z.2.2.1 z.2.2.2 ∧ (z.2.2.2 = true → ¬ (q.kind = 0 ∧ q.width = 1) ∧ q.kind ≠ 3 ∧ z.2.2.1.length = quL (cut q.chg a til) sp w.fin (cols.toNat - z.1) (a + (z.1 : Int) * sp)))
    (fun z => Srl w l q a sp cols z.2.1 z.2.2.1 z.2.2.2 z.1) (fun z => cols.toNat - z.1) [2, 3, 4, 5, 6, 11, 12, 13, 14, 15] (by kernel_rfl) (fun z hz => of_eq (nrA w l q a sp cols z.2.1 z.2.2.1 z.2.2.2 z.1 _ _) ?_) (0, [], [], false) ⟨Nat.zero_le _, by simp, by simp, by simp, fun h => by cases h⟩
  obtain ⟨j, out, rest, opn⟩ := z
  obtain ⟨hj, ho, hrl, he, hr⟩ := hz
  simp only at hj ho hrl he hr ⊢
  refine cond_intro (fun hlt => ?_) fun hge => ?_
  rotate_left
  · have hge : ¬ (j : Int) < cols := of_decide_eq_false hge
    rw [show cols.toNat - j = 0 by omega, refS, List.append_nil] at he
    rw [he]; exact Wk.refl _
  have hlt : (j : Int) < cols := of_decide_eq_true hlt
  obtain ⟨k, hk⟩ : ∃ k, cols.toNat - j = k + 1 := ⟨cols.toNat - j - 1, by omega⟩
  have hk2 : cols.toNat - (j + 1) = k := by omega
  obtain ⟨m1, m2, m3⟩ := hd0.col (j := j) (by omega)
  rw [m3, hd0.hi (by omega) (by omega)]
  have hxs : a + ((j + 1 : Nat) : Int) * sp = a + (j : Int) * sp + sp := by rw [mulS]; omega
  have hxE : a + (j : Int) * sp + sp ≤ a + cols * sp := by
    have : ((j + 1 : Nat) : Int) * sp ≤ cols * sp := Int.mul_le_mul_of_nonneg_right (by omega) (by omega)
    rw [mulS] at this
    omega
  have hj0 : (j : Int) = 0 → a + (j : Int) * sp = a := fun h => by rw [h]; simp
  have hj1 : (j : Int) ≠ 0 → a < a + (j : Int) * sp := fun h => by
    have := Int.mul_le_mul (a := 1) (b := 1) (c := (j : Int)) (d := sp) (by omega) s1 (by omega) (by omega)
    omega
  rw [hk] at he hr
  generalize hxx : a + (j : Int) * sp = x at *
  have hy := hi_le (x := x) (sp := sp) (fin := w.fin) (til := til) hxE ht
  -- one column more
  have hnx : ∀ (out' rest' : Str) (opn' : Bool), out'.length ≤ 64 * (j + 1) → rest'.length ≤ 200 → refS q l.base a til sp w.fin cols.toNat a [] false = out' ++ refS q l.base a til sp w.fin k (x + sp) rest' opn' → (opn' = true → ¬ (q.kind = 0 ∧ q.width = 1) ∧ q.kind ≠ 3 ∧ rest'.length = quL (cut q.chg a til) sp w.fin k (x + sp)) →
      Nx (En Tryd.f41).nt (fun z : Nat × Str × Str × Bool => z.1 ≤ cols.toNat ∧ z.2.1.length ≤ 64 * z.1 ∧ z.2.2.1.length ≤ 200 ∧ refS q l.base a til sp w.fin cols.toNat a [] false = z.2.1 ++ refS q l.base a til sp w.fin (cols.toNat - z.1) (a + (z.1 : Int) * sp) z.2.2.1 z.2.2.2 ∧ (z.2.2.2 = true → ¬ (q.kind = 0 ∧ q.width = 1) ∧ q.kind ≠ 3 ∧ z.2.2.1.length = quL (cut q.chg a til) sp w.fin (cols.toNat - z.1) (a + (z.1 : Int) * sp)))
        (fun z => Srl w l q a sp cols z.2.1 z.2.2.1 z.2.2.2 z.1) (fun z => cols.toNat - z.1) (cols.toNat - j) (Srl w l q a sp cols out' rest' opn' ((j : Int) + 1)) := fun out' rest' opn' h1 h2 h3 h4 =>
    Nx.mk (j + 1, out', rest', opn') ⟨by simp only; omega, h1, h2, by simp only; rw [hk2, hxs]; exact h3, by simp only; rw [hk2, hxs]; exact h4⟩ (by simp only; omega)
  revert hnx
  generalize Nx (En Tryd.f41).nt (fun z : Nat × Str × Str × Bool => z.1 ≤ cols.toNat ∧ z.2.1.length ≤ 64 * z.1 ∧ z.2.2.1.length ≤ 200 ∧ refS q l.base a til sp w.fin cols.toNat a [] false = z.2.1 ++ refS q l.base a til sp w.fin (cols.toNat - z.1) (a + (z.1 : Int) * sp) z.2.2.1 z.2.2.2 ∧ (z.2.2.2 = true → ¬ (q.kind = 0 ∧ q.width = 1) ∧ q.kind ≠ 3 ∧ z.2.2.1.length = quL (cut q.chg a til) sp w.fin (cols.toNat - z.1) (a + (z.1 : Int) * sp)))
        (fun z => Srl w l q a sp cols z.2.1 z.2.2.1 z.2.2.2 z.1) (fun z => cols.toNat - z.1) (cols.toNat - j) = J
  intro hnx
  have hj1e : addI .i64 (j : Int) 1 = (j : Int) + 1 := add64 (by omega) (by omega)
  refine runS_sound hmix _ _ _ (of_eq (nrB w l q a sp cols out rest opn j x (hiC x sp w.fin) _ _) ?_)
  rw [hj1e]
  rw [refS] at he
  refine cond_intro (fun h1 => ?_) fun h1 => ?_
  · have h1 : x > w.fin := of_decide_eq_true h1
    rw [if_pos h1] at he
    refine ⟨by unfold strM; omega, hnx (out ++ [32]) rest opn (by simp only [List.length_append, List.length_singleton]; omega) hrl (by rw [he, List.append_assoc]; rfl) fun h => ?_⟩
    obtain ⟨r1, r2, r3⟩ := hr h
    refine ⟨r1, r2, ?_⟩
    rw [r3, quL, if_pos h1]
    cases k with
    | zero => rw [quL]
    | succ k => rw [quL, if_pos (by omega)]
  have h1 : ¬ x > w.fin := of_decide_eq_false h1
  rw [if_neg h1] at he
  have hbw : (bif q.kind == 0 then q.width == 1 else false) = decide (q.kind = 0 ∧ q.width = 1) := by
    rw [Bool.eq_iff_iff]; simp
  rw [hbw]
  refine cond_intro (fun hb => ?_) fun hb => ?_
  · have hb := of_decide_eq_true hb
    rw [if_pos hb] at he
    have hbl := bitRf_len q x (hiC x sp w.fin) (hat x)
    refine ⟨PureW.mk (c69 q x (hiC x sp w.fin) (by omega) ⟨by omega, by omega⟩), by unfold strM; omega, ?_⟩
    exact hnx (out ++ bitRf q x (hiC x sp w.fin)) rest opn (by rw [List.length_append]; omega) hrl (by rw [he, List.append_assoc]) fun h => absurd hb (hr h).1
  have hb := of_decide_eq_false hb
  rw [if_neg hb] at he
  refine runS_sound hmix _ _ _ (of_eq (nrC w l q a sp cols out rest opn j x (hiC x sp w.fin) _ _) ?_)
  have hcut := cntR_cut q.chg (a := a) (til := til) (x := x) hy
  suffices main : ∀ f : Int, (q.kind = 3 → f = x) → (q.kind ≠ 3 → cntR q.chg f (hiC x sp w.fin) = cntR (cut q.chg a til) x (hiC x sp w.fin)) →
      At (En Tryd.f41) (fi Tryd.f41 fun d => Wk d (.str (refS q l.base a til sp w.fin cols.toNat a [] false))) (rlTd [1, 1, 1, 1, 0, 1, 0, 0, 1, 0, 0, 1, 1, 1, 1, 1, 1] J) ⟨rlSl w l q a sp cols out rest opn j [(16, I x), (17, I (hiC x sp w.fin)), (18, I f)], .empty⟩ by
    refine cond_intro (fun hf => ?_) fun hf => ?_
    · have hf : (j : Int) = 0 ∧ q.kind ≠ 3 := by simpa using hf
      rw [add64 (by omega) (by omega)]
      refine main (x + 1) (fun h => absurd h hf.2) fun _ => ?_
      rw [hcut, show max x (a + 1) = x + 1 by have := hj0 hf.1; omega]
    · refine main x (fun _ => rfl) fun h3 => ?_
      have hf : (j : Int) ≠ 0 := fun h0 => by
        rw [h0] at hf
        simp [h3] at hf
      rw [hcut, show max x (a + 1) = x by have := hj1 hf; omega]
  intro f hf3 hfb
  refine runS_sound hmix _ _ _ (of_eq (nrD w l q a sp cols out rest opn j x (hiC x sp w.fin) f _ _) ⟨PureW.mk (c70 q f _), cond_intro (fun h3 => ?_) fun h3 => ?_⟩)
  · have h3 : q.kind = 3 := by simpa using h3
    rw [if_pos h3] at he
    rw [hf3 h3, ev3, hj1e]
    refine ⟨by split <;> omega, by simp only [List.length_singleton]; unfold strM; omega, ?_⟩
    exact hnx (out ++ [evCh (cntR q.chg x (hiC x sp w.fin))]) rest opn (by simp only [List.length_append, List.length_singleton]; omega) hrl (by rw [he, List.append_assoc]; rfl) fun h => absurd h3 (hr h).2.1
  have h3 : q.kind ≠ 3 := by simpa using h3
  rw [if_neg h3] at he
  rw [hfb h3]
  generalize hn : cntR (cut q.chg a til) x (hiC x sp w.fin) = n at he
  refine runS_sound hmix _ _ _ (of_eq (nrD2 w l q a sp cols out rest opn j x n _ _) ?_)
  rw [hj1e]
  refine cond_intro (fun h4 => ?_) fun h4 => ?_
  · have h4 : 0 < n := by have := of_decide_eq_true h4; omega
    rw [if_pos h4] at he
    rw [bu3 h4]
    refine ⟨by split <;> omega, by simp only [List.length_singleton]; unfold strM; omega, ?_⟩
    exact hnx (out ++ [busCh n]) rest false (by simp only [List.length_append, List.length_singleton]; omega) hrl (by rw [he, List.append_assoc]; rfl) fun h => by cases h
  have h4 : ¬ 0 < n := by have := of_decide_eq_false h4; omega
  rw [if_neg h4] at he
  have hq : quL (cut q.chg a til) sp w.fin (k + 1) x = 1 + quL (cut q.chg a til) sp w.fin k (x + sp) := by
    rw [quL, if_neg h1, hn, if_neg h4]
  -- a character of the open text
  have hlast : ∀ rest : Str, 0 < rest.length → rest.length ≤ 200 → refS q l.base a til sp w.fin cols.toNat a [] false = out ++ rest.getD 0 default :: refS q l.base a til sp w.fin k (x + sp) (rest.drop 1) true → rest.length = 1 + quL (cut q.chg a til) sp w.fin k (x + sp) →
      At (En Tryd.f41) (fi Tryd.f41 fun d => Wk d (.str (refS q l.base a til sp w.fin cols.toNat a [] false))) (rlTd [1, 1, 1, 1, 0, 1, 0, 0, 1, 0, 0, 1, 1, 1, 1, 1, 1, 1, 1, 1, 1] J) ⟨rlSl w l q a sp cols out rest true j [], .empty⟩ := fun rest g1 g2 g3 g4 =>
    runS_sound hmix _ _ _ (of_eq (nrG w l q a sp cols out rest true j J _) ⟨⟨by omega, by omega, by omega⟩, by rw [take1 g1, List.length_singleton]; unfold strM; omega, ⟨by omega, by omega⟩, by
      rw [take1 g1, hj1e]
      exact hnx (out ++ [rest.getD 0 default]) (rest.drop 1) true (by simp only [List.length_append, List.length_singleton]; omega) (by rw [List.length_drop]; omega) (by rw [g3, List.append_assoc]; rfl) fun _ => ⟨hb, h3, by rw [List.length_drop]; omega⟩⟩)
  cases opn with
  | true =>
    refine cond_intro (fun h5 => by cases h5) fun _ => ?_
    obtain ⟨_, _, r3⟩ := hr rfl
    rw [hq] at r3
    rw [if_pos rfl] at he
    exact hlast rest (by omega) hrl he r3
  | false =>
    refine cond_intro (fun _ => ?_) fun h5 => by cases h5
    rw [if_neg (by decide)] at he
    have hroom : ∀ r : Nat, r = 1 + quL (cut q.chg a til) sp w.fin k (x + sp) → r ≤ 200 →
        At (En Tryd.f41) (fi Tryd.f41 fun d => Wk d (.str (refS q l.base a til sp w.fin cols.toNat a [] false))) (.code [1, 1, 1, 1, 0, 1, 0, 0, 1, 0, 0, 1, 1, 1, 1, 1, 1, 1, 1, 1, 0, 1, 0, 1, 1] :: rlTd [1, 1, 1, 1, 0, 1, 0, 0, 1, 0, 0, 1, 1, 1, 1, 1, 1, 1, 1, 1, 1] J) (Srl2 w l q a sp cols out j x r) := fun r hr1 hr2 => by
      have htl := txR_len q.kind l.base (sigAt q x) (by have := hat x; omega)
      rw [← hr1] at he hlast
      have hfl := fitS_len (txR q.kind l.base (sigAt q x)) (n := r) (by omega)
      have hend := hlast (fitS (txR q.kind l.base (sigAt q x)) r) (by omega) (by omega) he hfl
      refine runS_sound hmix _ _ _ (of_eq (nrF w l q a sp cols out j x r _ _) ⟨PureW.mk (cValZ q x (by omega)), PureW.mk (c71 q (sigAt q x) l.base (by have := hat x; omega)), fun _ => ?_⟩)
      have hr0 : subI .i64 (r : Int) 1 = ((r - 1 : Nat) : Int) := by rw [sub64 (by omega) (by omega)]; omega
      rw [hr0, Int.toNat_natCast, List.drop_zero]
      generalize txR q.kind l.base (sigAt q x) = T at *
      -- the blanks
      have hblk : ∀ T' : Str, T'.length ≤ r → T' ++ blk (r - T'.length) = fitS T r → At (En Tryd.f41) (fi Tryd.f41 fun d => Wk d (.str (refS q l.base a til sp w.fin cols.toNat a [] false))) (.code [1, 1, 1, 1, 0, 1, 0, 0, 1, 0, 0, 1, 1, 1, 1, 1, 1, 1, 1, 1, 0, 1, 0, 1, 1, 1, 1] :: rlTd [1, 1, 1, 1, 0, 1, 0, 0, 1, 0, 0, 1, 1, 1, 1, 1, 1, 1, 1, 1, 1] J) ⟨rlSl w l q a sp cols out T' true j [(21, I r)], .empty⟩ := fun T' b1 b2 => by
        refine runS_sound hmix _ _ _ (of_eq (nrF2 w l q a sp cols out T' true j r _ _) fun _ => ?_)
        have hsb : subI .i64 (r : Int) (T'.length : Int) = ((r - T'.length : Nat) : Int) := by rw [sub64 (by omega) (by omega)]; omega
        rw [hsb, Int.toNat_natCast, b2]
        refine ⟨PureW.mk ?_, by unfold blk strM; rw [List.length_replicate]; omega, hend⟩
        have := c49 ((r - T'.length : Nat) : Int) (by omega)
        rw [Int.toNat_natCast] at this
        exact this
      refine cond_intro (fun h6 => ?_) fun h6 => ?_
      · have h6 : T.length > r := by have := of_decide_eq_true h6; omega
        refine ⟨⟨by omega, by omega, by omega⟩, by rw [List.length_take]; unfold strM; omega, ?_⟩
        have hl1 : (T.take (r - 1) ++ [126]).length = r := by rw [List.length_append, List.length_take, List.length_singleton]; omega
        refine hblk (T.take (r - 1) ++ [126]) (by omega) ?_
        rw [hl1, Nat.sub_self]
        unfold fitS
        rw [if_pos h6]
        unfold blk
        simp
      · have h6 : ¬ T.length > r := by have := of_decide_eq_false h6; omega
        refine hblk T (by omega) ?_
        unfold fitS
        rw [if_neg h6]
    have hkc : (k : Int) + 1 = cols - j := by omega
    refine lp (fn := Tryd.f41) (fun r : Nat => 1 ≤ r ∧ r ≤ k + 1 ∧ 1 + quL (cut q.chg a til) sp w.fin k (x + sp) = r + quL (cut q.chg a til) sp w.fin (k + 1 - r) (x + (r : Int) * sp)) (fun r => Srl2 w l q a sp cols out j x r) (fun r => k + 1 - r) [2, 3, 4, 5, 6, 11, 12, 15, 16, 21] (by kernel_rfl) (fun r hri => of_eq (nrE w l q a sp cols out j x r _ _ _) ?_) 1 ⟨Nat.le_refl _, by omega, by simp⟩
    obtain ⟨r1, r2, r3⟩ := hri
    have hjr : addI .i64 (j : Int) (r : Int) = ((j + r : Nat) : Int) := by rw [add64 (by omega) (by omega)]; rfl
    rw [hjr]
    obtain ⟨n1, n2, n3⟩ := hd0.col (j := j + r) (by omega)
    rw [n3, hd0.hi (by omega) (by omega)]
    have hxr : a + ((j + r : Nat) : Int) * sp = x + (r : Int) * sp := by
      rw [← hxx, Int.natCast_add, Int.add_mul]; omega
    rw [hxr]
    have hgt : a < x + (r : Int) * sp := by
      have := Int.mul_le_mul (a := 1) (b := 1) (c := (r : Int)) (d := sp) (by omega) s1 (by omega) (by omega)
      omega
    have hcc : (bif decide (((j + r : Nat) : Int) < cols) then decide (x + (r : Int) * sp ≤ w.fin) else false) = decide (((j + r : Nat) : Int) < cols ∧ x + (r : Int) * sp ≤ w.fin) := by
      rw [Bool.eq_iff_iff]; simp
    rw [hcc]
    refine cond_intro (fun h6 => ?_) fun h6 => ?_
    · obtain ⟨h6, h7⟩ := of_decide_eq_true h6
      obtain ⟨m, hm2⟩ : ∃ m, k + 1 - r = m + 1 := ⟨k - r, by omega⟩
      have hxr2 : x + ((r + 1 : Nat) : Int) * sp = x + (r : Int) * sp + sp := by rw [mulS]; omega
      have hE2 : x + (r : Int) * sp + sp ≤ a + cols * sp := by
        have : ((j + r + 1 : Nat) : Int) * sp ≤ cols * sp := Int.mul_le_mul_of_nonneg_right (by omega) (by omega)
        rw [mulS] at this
        omega
      have hy2 := hi_le (x := x + (r : Int) * sp) (sp := sp) (fin := w.fin) (til := til) hE2 ht
      have hct := cntR_cut q.chg (a := a) (til := til) (x := x + (r : Int) * sp) hy2
      rw [show max (x + (r : Int) * sp) (a + 1) = x + (r : Int) * sp by omega] at hct
      rw [hm2, quL, if_neg (by omega), hct] at r3
      refine ⟨PureW.mk (c70 q _ _), cond_intro (fun h8 => ?_) fun h8 => ?_⟩
      · have h8 : 0 < cntR q.chg (x + (r : Int) * sp) (hiC (x + (r : Int) * sp) sp w.fin) := by have := of_decide_eq_true h8; omega
        rw [if_pos h8] at r3
        exact hroom r (by omega) (by omega)
      · have h8 : ¬ 0 < cntR q.chg (x + (r : Int) * sp) (hiC (x + (r : Int) * sp) sp w.fin) := by have := of_decide_eq_false h8; omega
        rw [if_neg h8] at r3
        have hr1 : addI .i64 (r : Int) 1 = ((r + 1 : Nat) : Int) := by rw [add64 (by omega) (by omega)]; rfl
        rw [hr1]
        refine Nx.mk (r + 1) ⟨by omega, by omega, ?_⟩ (by omega)
        rw [hxr2, show k + 1 - (r + 1) = m by omega]
        omega
    · have h6 := of_decide_eq_false h6
      have hz : quL (cut q.chg a til) sp w.fin (k + 1 - r) (x + (r : Int) * sp) = 0 := by
        cases hc2 : k + 1 - r with
        | zero => rw [quL]
        | succ m => rw [quL, if_pos (by omega)]
      rw [hz] at r3
      exact hroom r (by omega) (by omega)
end Go.Proofs.YtpcbjkjgjoemaaaDoor.S1
/- The reference's numerals. -/
namespace Go.Proofs.YtpcbjkjgjoemaaaDoor.S1
open Go Go.Ab Go.Proofs
theorem F48 : OkF 48 Tryd.f48 := ⟨by kernel_rfl, by kernel_rfl, by kernel_rfl⟩
def lv48 : List (List Nat × List Nat) := []
noncomputable def nqds (n : Int) : List Nat → Nat → Option Ans := scrAt [([1, 1, 0], 2, Ans.pure [I (quoI .i64 n 10)] (.str (Lib.decDigits (quoI .i64 n 10).toNat)))]
theorem nqd [Lay] (n : Int) (K : D → Prop) : runS (En Tryd.f48) (fi Tryd.f48 K) (nqds n) lv48 200 [.code []] ⟨argSlots 0 [I n], .empty⟩ =
  (bif decide (n < 10) then allByte 1 (litG [D.int IntKind.u8 (IntKind.u8.wrap (addI .i64 48 (if 0 > n then 0 else n)))]) ∧ K (.str (bytesG 1 (litG [D.int IntKind.u8 (IntKind.u8.wrap (addI .i64 48 (if 0 > n then 0 else n)))]))) else (10 : Int) ≠ 0 ∧ PureW PP 48 [I (quoI .i64 n 10)] [I (quoI .i64 n 10)] (.str (Lib.decDigits (quoI .i64 n 10).toNat)) ∧ (10 : Int) ≠ 0 ∧ allByte 1 (litG [D.int IntKind.u8 (IntKind.u8.wrap (addI .i64 48 (n.tmod 10)))]) ∧ (Lib.decDigits (quoI .i64 n 10).toNat).length + (bytesG 1 (litG [D.int IntKind.u8 (IntKind.u8.wrap (addI .i64 48 (n.tmod 10)))])).length ≤ strM ∧ K (.str (Lib.decDigits (quoI .i64 n 10).toNat ++ bytesG 1 (litG [D.int IntKind.u8 (IntKind.u8.wrap (addI .i64 48 (n.tmod 10)))])))) := by kernel_rfl
theorem dec_len (n : Nat) (hn : n ≤ 9223372036854775807) : (Lib.decDigits n).length ≤ 20 := by
  rw [Lib.decDigits_length]; exact Lib.nDigits_le20 n (by omega)
theorem c48 [Lay] (n : Nat) (hn : n ≤ 9223372036854775807) : Pure PP 48 [I n] (.str (Lib.decDigits n)) := by
  induction n using Nat.strongRecOn with
  | _ n ih =>
    refine pu F48 (by kernel_rfl) (of_eq (nqd n _) (cond_intro (fun h => ?_) fun h => ?_))
    · have h : n < 10 := by have := of_decide_eq_true h; omega
      rw [if_neg (by omega), digT n h]
      refine ⟨allB1 _, ?_⟩
      rw [bytesG_one, Lib.decDigits_one h]; exact Wk.refl _
    · have h : ¬ n < 10 := by have := of_decide_eq_false h; omega
      have hq : quoI .i64 (n : Int) 10 = ((n / 10 : Nat) : Int) := by
        unfold quoI
        have : ((n : Int)).tdiv 10 = ((n / 10 : Nat) : Int) := rfl
        rw [this, IntWalk.i64_in _ ⟨by omega, by omega⟩]
      have hr : (n : Int).tmod 10 = ((n % 10 : Nat) : Int) := rfl
      rw [hq, hr, digT _ (Nat.mod_lt _ (by omega)), bytesG_one, Int.toNat_natCast]
      refine ⟨by decide, PureW.mk (ih (n / 10) (by omega) (by omega)), by decide, allB1 _, ?_, ?_⟩
      · have := dec_len (n / 10) (by omega)
        simp only [List.length_cons, List.length_nil]; unfold strM; omega
      · conv => rhs; rw [Lib.decDigits, dif_neg h]
        exact Wk.refl _
end Go.Proofs.YtpcbjkjgjoemaaaDoor.S1
/- Lines: the reference's Line; the chapter's examples. -/
namespace Go.Proofs.YtpcbjkjgjoemaaaDoor.S1
open Go Go.Ab Go.Proofs
theorem crlX [Lay] (w : Wv) (l : Ln) (a sp cols : Int) (h : SmD w ∧ chkF w [l] a sp cols = 0) : Pure PP 41 [w.d, l.d, I a, I sp, I cols] (.str (lineS (sigOf w l.sig) a sp cols w.fin l.base)) := by
  obtain ⟨hw, h⟩ := h
  unfold chkF at h
  by_cases h0 : chkR w [l] a sp cols ≠ 0
  · rw [if_pos h0] at h; exact absurd h h0
  rw [if_neg h0] at h
  have h0 : chkR w [l] a sp cols = 0 := by omega
  obtain ⟨_, g1, g2, _, g3, g4⟩ := chkR_ok h0
  by_cases h1 : [l].all (fun l => decide (0 ≤ l.sig ∧ l.sig < (w.sig.length : Int))) = true
  · have hs : 0 ≤ l.sig ∧ l.sig < (w.sig.length : Int) := by simpa using h1
    exact c41 w hw l hs a sp cols ⟨g3, g4, hw.ok.fin.2, g1.1, g1.2, g2.1, g2.2⟩
  · rw [if_neg h1] at h; cases h
theorem F13 : OkF 13 Tryd.f13 := ⟨by kernel_rfl, by kernel_rfl, by kernel_rfl⟩
def lv13 : List (List Nat × List Nat) := []
noncomputable def nRLs (w : Wv) (l : Ln) (a : Int) (sp : Int) (cols : Int) : List Nat → Nat → Option Ans := scrAt [([1, 0, 0], 6, Ans.pure [w.d, L [l] 3 Ln.d, I a, I sp, I cols] (I (chkF w [l] a sp cols))), ([1, 1, 0], 5, Ans.pure [w.d, l.d, I a, I sp, I cols] (.str (lineS (sigOf w l.sig) a sp cols w.fin l.base)))]
theorem nRL [Lay] (w : Wv) (l : Ln) (a sp cols : Int) (K : D → Prop) : runS (En Tryd.f13) (fi Tryd.f13 K) (nRLs w l a sp cols) lv13 200 [.code []] ⟨argSlots 0 [w.d, l.d, I a, I sp, I cols], .empty⟩ =
  (PureW PP 40 [.agg [L w.sig 3 Sig.d, L w.gap 2 Iv.d, I w.fin], .list 1 3 (litG [.agg [I l.sig, .str l.lab, I l.base]]) .full, I a, I sp, I cols] [w.d, L [l] 3 Ln.d, I a, I sp, I cols] (I (chkF w [l] a sp cols)) ∧ bif chkF w [l] a sp cols != 0 then K (.tup [.str { data := #[] : ByteArray }.data.toList, I (chkF w [l] a sp cols)]) else PureW PP 41 [w.d, l.d, I a, I sp, I cols] [w.d, l.d, I a, I sp, I cols] (.str (lineS (sigOf w l.sig) a sp cols w.fin l.base)) ∧ K (.tup [.str (lineS (sigOf w l.sig) a sp cols w.fin l.base), I 0])) := by kernel_rfl
theorem F10 : OkF 10 Tryd.f10 := ⟨by kernel_rfl, by kernel_rfl, by kernel_rfl⟩
def lv10 : List (List Nat × List Nat) := [([1, 0, 1, 0], [1, 2, 7, 8, 9])]
noncomputable def nShs  : List Nat → Nat → Option Ans := scrAt []
theorem nSh [Lay] (w : Wv) (l : List Ln) (K : D → Prop) : runS (En Tryd.f10) (fi Tryd.f10 K) (nShs ) lv10 200 [.code []] ⟨argSlots 0 [w.d, L l 3 Ln.d], .empty⟩ =
  (l.length ≤ lenM → At (En Tryd.f10) (fi Tryd.f10 K) [It.code [1, 0, 1, 0], It.blk 0, It.code [1, 1]] { sl := [(1, L l 3 Ln.d), (2, .own [L w.sig 3 Sig.d, L w.gap 2 Iv.d, I w.fin]), (7, L l 3 Ln.d), (8, I (↑l.length : Int)), (9, I 0)], h := Heap.empty : St }) := by kernel_rfl
def SSh (w : Wv) (ls : List Ln) (i : Int) : St := ⟨[(1, L ls 3 Ln.d), (2, .own [L w.sig 3 Sig.d, L w.gap 2 Iv.d, I w.fin]), (7, L ls 3 Ln.d), (8, I ls.length), (9, I i)], .empty⟩
noncomputable def nShas (w : Wv) : List Nat → Nat → Option Ans := scrAt [([1, 1, 0], 1, Ans.pure [w.d] (B (smB w)))]
theorem nSha [Lay] (w : Wv) (l : List Ln) (i : Int) (J : St → Prop) (K : D → Prop) : runS (En Tryd.f10) (fi Tryd.f10 K) (nShas w) lv10 200 [.code [1, 0, 1, 0, 0], stp [1, 2, 7, 8, 9] J, .blk 0, .code [1, 1]] (SSh w l i) =
  (bif decide (i < (↑l.length : Int)) then (0 ≤ i ∧ i < (↑l.length : Int)) ∧ True ∧ (List.length (l.getD i.toNat default).lab ≤ strM → bif decide ((↑(List.length (l.getD i.toNat default).lab) : Int) > 100) then K (B false) else J { sl := [(1, L l 3 Ln.d), (2, .own [L w.sig 3 Sig.d, L w.gap 2 Iv.d, I w.fin]), (7, L l 3 Ln.d), (8, I (↑l.length : Int)), (9, I (addI .i64 i 1))], h := Heap.empty : St }) else PureW PP 14 [w.d] [w.d] (B (smB w)) ∧ ((smB w = true → l.length ≤ lenM) → K (B (bif smB w then decide ((↑l.length : Int) ≤ 8) else false)))) := by kernel_rfl
/-- The example's wave. -/
def w59 : Wv := ⟨[⟨0, 1, [⟨0, [48]⟩, ⟨5, [49]⟩, ⟨8, [48]⟩]⟩, ⟨0, 4, [⟨0, [49, 48, 49, 48]⟩, ⟨6, [49, 49, 49, 49]⟩]⟩], [], 11⟩
def w59D : D := .agg [.list 2 3 (litG [.agg [I 0, I 1, .list 3 2 (litG [.agg [I 0, .str [48]], .agg [I 5, .str [49]], .agg [I 8, .str [48]]]) .full], .agg [I 0, I 4, .list 2 2 (litG [.agg [I 0, .str [49, 48, 49, 48]], .agg [I 6, .str [49, 49, 49, 49]]]) .full]]) .full, .list 0 0 (fun _ => .junk) .full, I 11]
theorem w59W : Wk w59D w59.d := by
  refine Wk.agg (Wks.cons (Wk.litW (l := w59.sig) (enc := Sig.d) rfl fun i hi => ?_) (Wks.cons (Wk.nilL (α := Iv) (sz' := 2) (enc := Iv.d)) (Wks.refl _)))
  rcases i with _ | _ | i
  · exact ⟨Wk.agg (Wks.cons (Wk.refl _) (Wks.cons (Wk.refl _) (Wks.cons (Wk.litL rfl rfl) (Wks.refl _)))), fun _ => rfl⟩
  · exact ⟨Wk.agg (Wks.cons (Wk.refl _) (Wks.cons (Wk.refl _) (Wks.cons (Wk.litL rfl rfl) (Wks.refl _)))), fun _ => rfl⟩
  · exact absurd hi (by simp [w59])
theorem eNewA [Lay] : Does PP 12 [w59D] .empty (.bp 0 0) (hM w59 (-1) 0) := Does.args (e12 w59) (Wks.cons w59W (Wks.refl _))
theorem F7 : OkF 7 Tryd.f7 := ⟨by kernel_rfl, by kernel_rfl, by kernel_rfl⟩
def lv7 : List (List Nat × List Nat) := []
noncomputable def nAks  : List Nat → Nat → Option Ans := scrAt [([1, 0], 11, Ans.eff (D.bp 0 0) (hM w59 (-1) 0)), ([1, 1, 0], 3, Ans.eff (.tup [.str (lnR w59 { sig := 0, lab := { data := #[] : ByteArray }.data.toList, base := 0 : Ln } 0 1 12).fst, I (lnR w59 { sig := 0, lab := { data := #[] : ByteArray }.data.toList, base := 0 : Ln } 0 1 12).snd]) (hM w59 (-1) (lnN w59 { sig := 0, lab := { data := #[] : ByteArray }.data.toList, base := 0 : Ln } 0 1 12 0))), ([1, 1, 1, 0], 3, Ans.eff (.tup [.str (lnR w59 { sig := 0, lab := { data := #[] : ByteArray }.data.toList, base := 0 : Ln } 0 2 6).fst, I (lnR w59 { sig := 0, lab := { data := #[] : ByteArray }.data.toList, base := 0 : Ln } 0 2 6).snd]) (hM w59 (-1) (lnN w59 { sig := 0, lab := { data := #[] : ByteArray }.data.toList, base := 0 : Ln } 0 2 6 (lnN w59 { sig := 0, lab := { data := #[] : ByteArray }.data.toList, base := 0 : Ln } 0 1 12 0)))), ([1, 1, 1, 1, 0], 3, Ans.eff (.tup [.str (lnR w59 { sig := 1, lab := { data := #[] : ByteArray }.data.toList, base := 1 : Ln } 0 1 12).fst, I (lnR w59 { sig := 1, lab := { data := #[] : ByteArray }.data.toList, base := 1 : Ln } 0 1 12).snd]) (hM w59 (-1) (lnN w59 { sig := 1, lab := { data := #[] : ByteArray }.data.toList, base := 1 : Ln } 0 1 12 (lnN w59 { sig := 0, lab := { data := #[] : ByteArray }.data.toList, base := 0 : Ln } 0 2 6 (lnN w59 { sig := 0, lab := { data := #[] : ByteArray }.data.toList, base := 0 : Ln } 0 1 12 0)))))]
theorem nAk [Lay]  (K : D → Heap → Prop) : runS (En Tryd.f7) (fh Tryd.f7 K) (nAks ) nolv 200 [.code []] ⟨argSlots 0 [], .empty⟩ =
  (Does PP 12 [.agg [.list 2 3 (litG [.agg [I 0, I 1, .list 3 2 (litG [.agg [I 0, .str { data := #[48] : ByteArray }.data.toList], .agg [I 5, .str { data := #[49] : ByteArray }.data.toList], .agg [I 8, .str { data := #[48] : ByteArray }.data.toList]]) .full], .agg [I 0, I 4, .list 2 2 (litG [.agg [I 0, .str { data := #[49, 48, 49, 48] : ByteArray }.data.toList], .agg [I 6, .str { data := #[49, 49, 49, 49] : ByteArray }.data.toList]]) .full]]) .full, .list 0 0 (fun _ => D.junk) .full, I 11]] Heap.empty (D.bp 0 0) (hM w59 (-1) 0) ∧
  Does PP 11 [D.iface 36 (D.bp 0 0), .agg [I 0, .str { data := #[] : ByteArray }.data.toList, I 0], I 0, I 1, I 12] { box := upd (fun _ => none) 0 (some (Row.lit [L w59.sig 3 Sig.d, L w59.gap 2 Iv.d, I w59.fin, I (-1), I 0])), nl := 1, hw := fun _ => none, nt := 0, vw := fun _ => none : Heap } (.tup [.str (lnR w59 { sig := 0, lab := { data := #[] : ByteArray }.data.toList, base := 0 : Ln } 0 1 12).fst, I (lnR w59 { sig := 0, lab := { data := #[] : ByteArray }.data.toList, base := 0 : Ln } 0 1 12).snd]) (hM w59 (-1) (lnN w59 { sig := 0, lab := { data := #[] : ByteArray }.data.toList, base := 0 : Ln } 0 1 12 0)) ∧
    Does PP 11 [D.iface 36 (D.bp 0 0), .agg [I 0, .str { data := #[] : ByteArray }.data.toList, I 0], I 0, I 2, I 6] { box := upd (fun _ => none) 0 (some (Row.lit [L w59.sig 3 Sig.d, L w59.gap 2 Iv.d, I w59.fin, I (-1), I (lnN w59 { sig := 0, lab := { data := #[] : ByteArray }.data.toList, base := 0 : Ln } 0 1 12 0)])), nl := 1, hw := fun _ => none, nt := 0, vw := fun _ => none : Heap } (.tup [.str (lnR w59 { sig := 0, lab := { data := #[] : ByteArray }.data.toList, base := 0 : Ln } 0 2 6).fst, I (lnR w59 { sig := 0, lab := { data := #[] : ByteArray }.data.toList, base := 0 : Ln } 0 2 6).snd]) (hM w59 (-1) (lnN w59 { sig := 0, lab := { data := #[] : ByteArray }.data.toList, base := 0 : Ln } 0 2 6 (lnN w59 { sig := 0, lab := { data := #[] : ByteArray }.data.toList, base := 0 : Ln } 0 1 12 0))) ∧
      Does PP 11 [D.iface 36 (D.bp 0 0), .agg [I 1, .str { data := #[] : ByteArray }.data.toList, I 1], I 0, I 1, I 12] { box := upd (fun _ => none) 0 (some (Row.lit [L w59.sig 3 Sig.d, L w59.gap 2 Iv.d, I w59.fin, I (-1), I (lnN w59 { sig := 0, lab := { data := #[] : ByteArray }.data.toList, base := 0 : Ln } 0 2 6 (lnN w59 { sig := 0, lab := { data := #[] : ByteArray }.data.toList, base := 0 : Ln } 0 1 12 0))])), nl := 1, hw := fun _ => none, nt := 0, vw := fun _ => none : Heap } (.tup [.str (lnR w59 { sig := 1, lab := { data := #[] : ByteArray }.data.toList, base := 1 : Ln } 0 1 12).fst, I (lnR w59 { sig := 1, lab := { data := #[] : ByteArray }.data.toList, base := 1 : Ln } 0 1 12).snd]) (hM w59 (-1) (lnN w59 { sig := 1, lab := { data := #[] : ByteArray }.data.toList, base := 1 : Ln } 0 1 12 (lnN w59 { sig := 0, lab := { data := #[] : ByteArray }.data.toList, base := 0 : Ln } 0 2 6 (lnN w59 { sig := 0, lab := { data := #[] : ByteArray }.data.toList, base := 0 : Ln } 0 1 12 0)))) ∧ K (B true) { box := upd (fun _ => none) 0 (some (Row.lit [L w59.sig 3 Sig.d, L w59.gap 2 Iv.d, I w59.fin, I (-1), I (lnN w59 { sig := 1, lab := { data := #[] : ByteArray }.data.toList, base := 1 : Ln } 0 1 12 (lnN w59 { sig := 0, lab := { data := #[] : ByteArray }.data.toList, base := 0 : Ln } 0 2 6 (lnN w59 { sig := 0, lab := { data := #[] : ByteArray }.data.toList, base := 0 : Ln } 0 1 12 0)))])), nl := 1, hw := fun _ => none, nt := 0, vw := fun _ => none : Heap }) := by kernel_rfl
theorem c13 [Lay] (w : Wv) (hw : SmD w) (l : Ln) (a sp cols : Int) : Pure PP 13 [w.d, l.d, I a, I sp, I cols] (.tup [.str (lnR w l a sp cols).1, I (lnR w l a sp cols).2]) := by
  have hc : chkF w [l] a sp cols = (lnR w l a sp cols).2 := by
    unfold chkF lnR
    by_cases h0 : chkR w [l] a sp cols ≠ 0
    · rw [if_pos h0, if_pos h0]
    rw [if_neg h0, if_neg h0]
    by_cases hs : 0 ≤ l.sig ∧ l.sig < (w.sig.length : Int)
    · rw [if_pos hs, if_pos (by simpa using hs)]
    · rw [if_neg hs, if_neg (by simpa using hs)]
  refine pu F13 (by kernel_rfl) (of_eq (nRL w l a sp cols _) ⟨⟨Wks.cons (Wk.refl _) (Wks.cons (Wk.litL rfl rfl) (Wks.refl _)), c40 w [l] a sp cols⟩, cond_intro (fun h => ?_) fun h => ?_⟩)
  · have h : chkF w [l] a sp cols ≠ 0 := by simpa using h
    have h1 : (lnR w l a sp cols).1 = [] := by
      rw [hc] at h
      unfold lnR at h ⊢
      by_cases h0 : chkR w [l] a sp cols ≠ 0
      · rw [if_pos h0]
      rw [if_neg h0] at h ⊢
      by_cases hs : 0 ≤ l.sig ∧ l.sig < (w.sig.length : Int)
      · rw [if_pos hs] at h; exact absurd rfl h
      · rw [if_neg hs]
    rw [h1, hc]; exact Wk.refl _
  · have h : chkF w [l] a sp cols = 0 := by simpa using h
    refine ⟨PureW.mk (crlX w l a sp cols ⟨hw, h⟩), ?_⟩
    rw [hc] at h
    have h1 : lnR w l a sp cols = (lineS (sigOf w l.sig) a sp cols w.fin l.base, 0) := by
      unfold lnR at h ⊢
      by_cases h0 : chkR w [l] a sp cols ≠ 0
      · rw [if_pos h0] at h; exact absurd h h0
      rw [if_neg h0] at h ⊢
      by_cases hs : 0 ≤ l.sig ∧ l.sig < (w.sig.length : Int)
      · rw [if_pos hs]
      · rw [if_neg hs] at h; cases h
    rw [h1]; exact Wk.refl _
theorem w59D2 : SmD w59 := smB_D (by decide +kernel)
theorem c7 [Lay] : Pure PP 7 [] (B true) := by
  refine pr F7 (by kernel_rfl) (of_eq (nAk _) ⟨eNewA, e11 w59 w59D2 0 (by decide) ⟨0, [], 0⟩ 0 1 12, e11 w59 w59D2 _ (by decide +kernel) ⟨0, [], 0⟩ 0 2 6, e11 w59 w59D2 _ (by decide +kernel) ⟨1, [], 1⟩ 0 1 12, _, RetLe.refl _ _⟩)
def shB (w : Wv) (ls : List Ln) : Bool := ls.all (fun l => decide (l.lab.length ≤ 100)) && (smB w && decide (ls.length ≤ 8))
theorem c10 [Lay] (w : Wv) (ls : List Ln) : Pure PP 10 [w.d, L ls 3 Ln.d] (B (shB w ls)) := by
  refine pu F10 (by kernel_rfl) (of_eq (nSh w ls _) fun hl => ?_)
  refine lp (fn := Tryd.f10) (fun i : Nat => i ≤ ls.length ∧ ls.all (fun l => decide (l.lab.length ≤ 100)) = (ls.drop i).all (fun l => decide (l.lab.length ≤ 100))) (fun i => SSh w ls i) (fun i => ls.length - i) [1, 2, 7, 8, 9] (by kernel_rfl) (fun i hi => of_eq (nSha w ls i _ _) (cond_intro (fun hlt => ?_) fun hge => ?_)) 0 ⟨Nat.zero_le _, rfl⟩
  · have hlt := ltI hlt
    obtain ⟨_, he⟩ := hi
    rw [add1 hlt hl, Int.toNat_natCast]
    rw [all_drop hlt] at he
    generalize ls.getD i default = x at he ⊢
    refine ⟨⟨by omega, by omega⟩, trivial, fun _ => cond_intro (fun h => ?_) fun h => ?_⟩
    · have h : decide (x.lab.length ≤ 100) = false := decide_eq_false (by have := of_decide_eq_true h; omega)
      unfold shB
      rw [he, h]; exact Wk.refl _
    · have h : decide (x.lab.length ≤ 100) = true := decide_eq_true (by have := of_decide_eq_false h; omega)
      exact Nx.mk (i + 1) ⟨hlt, by rw [he, h]; rfl⟩ (by omega)
  · refine ⟨PureW.mk (c14 w), fun _ => ?_⟩
    unfold shB
    rw [hi.2, List.drop_of_length_le (geI hge)]
    have : (bif smB w then decide ((ls.length : Int) ≤ 8) else false) = (([] : List Ln).all (fun l => decide (l.lab.length ≤ 100)) && (smB w && decide (ls.length ≤ 8))) := by
      rw [Bool.eq_iff_iff]; simp; omega
    rw [this]; exact Wk.refl _
end Go.Proofs.YtpcbjkjgjoemaaaDoor.S1
