/- Seat 1: plans. -/
import Derived.Test.YtmlhaikblfjghaaS8
namespace Go.Proofs.Ytmlhaikblfjghaa.S1
open Go Go.Ab Go.Proofs
theorem F29 : OkF 29 Try.f29 := ⟨by kernel_rfl, by kernel_rfl, by kernel_rfl⟩
def lv29 : List (List Nat × List Nat) := []
def H28 (out : List Ent) : Heap := ⟨upd (fun _ => none) 0 (some (.lit [LT out 7 Ent.d 0])), 1, upd (fun _ => none) 0 (some out.length), 1⟩
noncomputable def n29s  : List Nat → Nat → Option Ans := scrAt []
theorem n29 (i : Int) (e : Ent) (out : List Ent) (K : D → Heap → Prop) : runS (En Try.f29) (fh Try.f29 K) (n29s ) lv29 200 [.code []] ⟨argSlots 0 [I i, e.d, .bp 0 0], (H28 out)⟩ =
  ((upd (fun x => none) 0 (some out.length) 0 = some out.length ∧ (out.length + 1) * 56 ≤ roomM) ∧ True ∧ K (B true) { box := upd (upd (fun x => none) 0 (some (Row.lit [.list out.length 7 (fun i => (out.getD i default).d) (.tok 0 7)]))) 0 (some (Row.lit [.list (out.length + 1) 7 (catG out.length (fun i => (out.getD i default).d) (litG [.agg [I e.frm, I e.to, I e.lvl, I e.stp, I e.plc.sec, I e.plc.len, I e.plc.sum]])) (.tok 0 7)])), nl := 1, hw := upd (upd (fun x => none) 0 (some out.length)) 0 (some (out.length + 1)), nt := 1 : Heap }) := by kernel_rfl
theorem e29 (i : Int) (e : Ent) (out : List Ent) (h : out.length ≤ 1000000) : Does PP 29 [I i, e.d, .bp 0 0] (H28 out) (B true) (H28 (out ++ [e])) := by
  refine du F29 (by kernel_rfl) (of_eq (n29 i e out _) ⟨⟨rfl, by unfold roomM; omega⟩, trivial, RetLe.of (Wk.refl _) ?_⟩)
  rw [upd_upd, upd_upd, show H28 (out ++ [e]) = ⟨upd (fun _ => none) 0 (some (.lit [LT (out ++ [e]) 7 Ent.d 0])), 1, upd (fun _ => none) 0 (some (out.length + 1)), 1⟩ by simp [H28]]
  exact HeapLe.row (.lit (Wks.cons Wk.snoc Wks.nil))
theorem F28 : OkF 28 Try.f28 := ⟨by kernel_rfl, by kernel_rfl, by kernel_rfl⟩
def lv28 : List (List Nat × List Nat) := [([1, 1, 1, 0], [2, 3, 6, 21, 22, 23])]
noncomputable def n28s (d : Dir) : List Nat → Nat → Option Ans := scrAt [([1, 0], 1, Ans.pure [d.d] (I (endOf d)))]
theorem n28 (p : Pol) (d : Dir) (out : List Ent) (K : D → Heap → Prop) : runS (En Try.f28) (fh Try.f28 K) (n28s d) lv28 200 [.code []] ⟨argSlots 0 [p.d, d.d, .clo 29 [.bp 0 0]], (H28 out)⟩ =
  (PureW PP 46 [d.d] [d.d] (I (endOf d)) ∧ (d.blk.length ≤ lenM → ((0 : Int) ≤ 0 ∧ (0 ≤ if 0 > subI .i64 (↑d.blk.length : Int) 1 then 0 else subI .i64 (↑d.blk.length : Int) 1) ∧ (if 0 > subI .i64 (↑d.blk.length : Int) 1 then 0 else subI .i64 (↑d.blk.length : Int) 1) ≤ (↑d.blk.length : Int)) ∧ ((if 0 > subI .i64 (↑d.blk.length : Int) 1 then 0 else subI .i64 (↑d.blk.length : Int) 1).toNat - 0 ≤ lenM → At (En Try.f28) (fh Try.f28 K) [It.code [1, 1, 1, 0], It.blk 0] { sl := [(2, D.clo 29 [D.bp 0 0]), (3, .own [I p.full, I p.smp, I p.stp]), (6, I (endOf d)), (21, .list ((if 0 > subI .i64 (↑d.blk.length : Int) 1 then 0 else subI .i64 (↑d.blk.length : Int) 1).toNat - 0) 7 (dropG (fun i => (d.blk.getD i default).d) 0) .none), (22, I (↑((if 0 > subI .i64 (↑d.blk.length : Int) 1 then 0 else subI .i64 (↑d.blk.length : Int) 1).toNat - 0) : Int)), (23, I 0)], h := { box := upd (fun x => none) 0 (some (Row.lit [.list out.length 7 (fun i => (out.getD i default).d) (.tok 0 7)])), nl := 1, hw := upd (fun x => none) 0 (some out.length), nt := 1 : Heap } : St }))) := by kernel_rfl
def S28 (p : Pol) (en : Int) (q : List Ent) (out : List Ent) (i : Int) : St := ⟨[(2, .clo 29 [.bp 0 0]), (3, .own [I p.full, I p.smp, I p.stp]), (6, I en), (21, L q 7 Ent.d), (22, I q.length), (23, I i)], H28 out⟩
noncomputable def n28as (p : Pol) (en : Int) (q : List Ent) (out : List Ent) (i : Int) : List Nat → Nat → Option Ans := scrAt [([1, 1, 1, 0, 0, 1, 1, 0, 0, 1, 0], 3, Ans.pure [p.d, (q.getD i.toNat default).d, I en] (.tup [I (level p (q.getD i.toNat default) en).fst, I (level p (q.getD i.toNat default) en).snd])), ([1, 1, 1, 0, 0, 1, 1, 0, 0, 1, 1, 1, 1, 1, 1, 0], 3, Ans.eff (B true) (H28 (out ++ [{ frm := (q.getD i.toNat default).frm, to := (q.getD i.toNat default).to, lvl := (level p (q.getD i.toNat default) en).fst, stp := (level p (q.getD i.toNat default) en).snd, plc := (q.getD i.toNat default).plc : Ent }])))]
theorem n28a (p : Pol) (en : Int) (q : List Ent) (out : List Ent) (i : Int) (J : St → Prop) (K : D → Heap → Prop) : runS (En Try.f28) (fh Try.f28 K) (n28as p en q out i) lv28 200 [.code [1, 1, 1, 0, 0], stp [2, 3, 6, 21, 22, 23] J, .blk 0] (S28 p en q out i) =
  (bif decide (i < (↑q.length : Int)) then
  (0 ≤ i ∧ i < (↑q.length : Int)) ∧
    True ∧
      PureW PP 9 [p.d, (q.getD i.toNat default).d, I en] [p.d, (q.getD i.toNat default).d, I en] (.tup [I (level p (q.getD i.toNat default) en).fst, I (level p (q.getD i.toNat default) en).snd]) ∧
        bif (q.getD i.toNat default).lvl == 1 then
          ((!(level p (q.getD i.toNat default) en).fst == 2 && bif (level p (q.getD i.toNat default) en).fst == 1 then decide ((level p (q.getD i.toNat default) en).snd > (q.getD i.toNat default).stp) else false) = true → (q.getD i.toNat default).stp ≠ 0) ∧
            bif !bif (level p (q.getD i.toNat default) en).fst == 2 then true else bif bif (level p (q.getD i.toNat default) en).fst == 1 then decide ((level p (q.getD i.toNat default) en).snd > (q.getD i.toNat default).stp) else false then (level p (q.getD i.toNat default) en).snd.tmod (q.getD i.toNat default).stp == 0 else false then J { sl := [(2, D.clo 29 [D.bp 0 0]), (3, .own [I p.full, I p.smp, I p.stp]), (6, I en), (21, L q 7 Ent.d), (22, I (↑q.length : Int)), (23, I (addI .i64 i 1))], h := { box := upd (fun x => none) 0 (some (Row.lit [.list out.length 7 (fun i => (out.getD i default).d) (.tok 0 7)])), nl := 1, hw := upd (fun x => none) 0 (some out.length), nt := 1 : Heap } : St }
            else
              True ∧
                True ∧
                  Does PP 29 [I i, .agg [I (q.getD i.toNat default).frm, I (q.getD i.toNat default).to, I (level p (q.getD i.toNat default) en).fst, I (level p (q.getD i.toNat default) en).snd, I (q.getD i.toNat default).plc.sec, I (q.getD i.toNat default).plc.len, I (q.getD i.toNat default).plc.sum], D.bp 0 0] { box := upd (fun x => none) 0 (some (Row.lit [.list out.length 7 (fun i => (out.getD i default).d) (.tok 0 7)])), nl := 1, hw := upd (fun x => none) 0 (some out.length), nt := 1 : Heap } (B true) (H28 (out ++ [{ frm := (q.getD i.toNat default).frm, to := (q.getD i.toNat default).to, lvl := (level p (q.getD i.toNat default) en).fst, stp := (level p (q.getD i.toNat default) en).snd, plc := (q.getD i.toNat default).plc : Ent }])) ∧
                    J { sl := [(2, D.clo 29 [D.bp 0 0]), (3, .own [I p.full, I p.smp, I p.stp]), (6, I en), (21, L q 7 Ent.d), (22, I (↑q.length : Int)), (23, I (addI .i64 i 1))], h := { box := upd (fun x => none) 0 (some (Row.lit [.list (out ++ [{ frm := (q.getD i.toNat default).frm, to := (q.getD i.toNat default).to, lvl := (level p (q.getD i.toNat default) en).fst, stp := (level p (q.getD i.toNat default) en).snd, plc := (q.getD i.toNat default).plc : Ent }]).length 7 (fun i_1 => ((out ++ [{ frm := (q.getD i.toNat default).frm, to := (q.getD i.toNat default).to, lvl := (level p (q.getD i.toNat default) en).fst, stp := (level p (q.getD i.toNat default) en).snd, plc := (q.getD i.toNat default).plc : Ent }]).getD i_1 default).d) (.tok 0 7)])), nl := 1, hw := upd (fun x => none) 0 (some (out ++ [{ frm := (q.getD i.toNat default).frm, to := (q.getD i.toNat default).to, lvl := (level p (q.getD i.toNat default) en).fst, stp := (level p (q.getD i.toNat default) en).snd, plc := (q.getD i.toNat default).plc : Ent }]).length), nt := 1 : Heap } : St }
        else
          bif !bif (q.getD i.toNat default).lvl == 0 then (level p (q.getD i.toNat default) en).fst != 0 else false then J { sl := [(2, D.clo 29 [D.bp 0 0]), (3, .own [I p.full, I p.smp, I p.stp]), (6, I en), (21, L q 7 Ent.d), (22, I (↑q.length : Int)), (23, I (addI .i64 i 1))], h := { box := upd (fun x => none) 0 (some (Row.lit [.list out.length 7 (fun i => (out.getD i default).d) (.tok 0 7)])), nl := 1, hw := upd (fun x => none) 0 (some out.length), nt := 1 : Heap } : St }
          else
            True ∧
              True ∧
                Does PP 29 [I i, .agg [I (q.getD i.toNat default).frm, I (q.getD i.toNat default).to, I (level p (q.getD i.toNat default) en).fst, I (level p (q.getD i.toNat default) en).snd, I (q.getD i.toNat default).plc.sec, I (q.getD i.toNat default).plc.len, I (q.getD i.toNat default).plc.sum], D.bp 0 0] { box := upd (fun x => none) 0 (some (Row.lit [.list out.length 7 (fun i => (out.getD i default).d) (.tok 0 7)])), nl := 1, hw := upd (fun x => none) 0 (some out.length), nt := 1 : Heap } (B true) (H28 (out ++ [{ frm := (q.getD i.toNat default).frm, to := (q.getD i.toNat default).to, lvl := (level p (q.getD i.toNat default) en).fst, stp := (level p (q.getD i.toNat default) en).snd, plc := (q.getD i.toNat default).plc : Ent }])) ∧
                  J { sl := [(2, D.clo 29 [D.bp 0 0]), (3, .own [I p.full, I p.smp, I p.stp]), (6, I en), (21, L q 7 Ent.d), (22, I (↑q.length : Int)), (23, I (addI .i64 i 1))], h := { box := upd (fun x => none) 0 (some (Row.lit [.list (out ++ [{ frm := (q.getD i.toNat default).frm, to := (q.getD i.toNat default).to, lvl := (level p (q.getD i.toNat default) en).fst, stp := (level p (q.getD i.toNat default) en).snd, plc := (q.getD i.toNat default).plc : Ent }]).length 7 (fun i_1 => ((out ++ [{ frm := (q.getD i.toNat default).frm, to := (q.getD i.toNat default).to, lvl := (level p (q.getD i.toNat default) en).fst, stp := (level p (q.getD i.toNat default) en).snd, plc := (q.getD i.toNat default).plc : Ent }]).getD i_1 default).d) (.tok 0 7)])), nl := 1, hw := upd (fun x => none) 0 (some (out ++ [{ frm := (q.getD i.toNat default).frm, to := (q.getD i.toNat default).to, lvl := (level p (q.getD i.toNat default) en).fst, stp := (level p (q.getD i.toNat default) en).snd, plc := (q.getD i.toNat default).plc : Ent }]).length), nt := 1 : Heap } : St }
 else K (.tup []) { box := upd (fun x => none) 0 (some (Row.lit [.list out.length 7 (fun i => (out.getD i default).d) (.tok 0 7)])), nl := 1, hw := upd (fun x => none) 0 (some out.length), nt := 1 : Heap }) := by kernel_rfl

def thinB (p : Pol) (en : Int) (e : Ent) : Bool :=
  bif e.lvl == 1 then bif (level p e en).1 == 2 then true else bif bif (level p e en).1 == 1 then decide ((level p e en).2 > e.stp) else false then (level p e en).2.tmod e.stp == 0 else false
  else bif e.lvl == 0 then (level p e en).1 != 0 else false
def thinE (p : Pol) (en : Int) (e : Ent) : Ent := ⟨e.frm, e.to, (level p e en).1, (level p e en).2, e.plc⟩
def planL (p : Pol) (en : Int) (q : List Ent) : List Ent := (q.filter (thinB p en)).map (thinE p en)
theorem planL_snoc (p : Pol) (en : Int) (q : List Ent) (x : Ent) : planL p en (q ++ [x]) = planL p en q ++ if thinB p en x then [thinE p en x] else [] := by
  simp only [planL, List.filter_append, List.map_append, List.filter_cons, List.filter_nil]
  split <;> rfl
theorem planL_len (p : Pol) (en : Int) (q : List Ent) : (planL p en q).length ≤ q.length := by
  simp only [planL, List.length_map]; exact List.length_filter_le _ _
theorem e28 (p : Pol) (d : Dir) (hm : d.blk.length ≤ 1000) (hv : ∀ e ∈ d.blk, e.lvl = 1 → e.stp ≠ 0) :
    Does PP 28 [p.d, d.d, .clo 29 [.bp 0 0]] (H28 []) (.tup []) (H28 (planL p (endOf d) (d.blk.take (d.blk.length - 1)))) := by
  refine du F28 (by kernel_rfl) (of_eq (n28 p d [] _) ⟨PureW.mk (c46 _), fun hl => ?_⟩)
  have hX : (if 0 > subI .i64 (d.blk.length : Int) 1 then 0 else subI .i64 (d.blk.length : Int) 1) = ((d.blk.length - 1 : Nat) : Int) := by
    rw [sub64 (by omega) (by omega)]; split <;> omega
  rw [hX]
  simp only [Int.toNat_natCast, Nat.sub_zero]
  refine ⟨⟨Int.le_refl _, by omega, by omega⟩, fun _ => ?_⟩
  have hq : (d.blk.take (d.blk.length - 1)).length = d.blk.length - 1 := by simp
  have hqm : ∀ x ∈ d.blk.take (d.blk.length - 1), x ∈ d.blk := fun x hx => List.mem_of_mem_take hx
  have hqg : ∀ i, i < (d.blk.take (d.blk.length - 1)).length → (dropG (fun i => Ent.d (d.blk.getD i default)) 0) i = Ent.d ((d.blk.take (d.blk.length - 1)).getD i default) := fun i hi => by
    simp only [dropG, Nat.zero_add]
    rw [getD_list hi, List.getElem_take, getD_list (by omega)]
  generalize d.blk.take (d.blk.length - 1) = q at hq hqm hqg ⊢
  rw [← hq]
  refine at_le (st' := S28 p (endOf d) q (planL p (endOf d) (q.take 0)) (0 : Nat)) ?_ (StLe.set 21 rfl (Wk.list rfl (.inl rfl) hqg (.inl rfl)) rfl rfl)
  generalize endOf d = en
  refine lp (fn := Try.f28) (fun i : Nat => i ≤ q.length) (fun i => S28 p en q (planL p en (q.take i)) i) (fun i => q.length - i) [2, 3, 6, 21, 22, 23] (by kernel_rfl) (fun i hi => of_eq (n28a p en q _ i _ _) (cond_intro (fun hlt => ?_) fun hge => ?_)) 0 (Nat.zero_le _)
  · have hlt := ltI hlt
    rw [Int.toNat_natCast, add1 hlt (by unfold lenM; omega)]
    have hs := planL_snoc p en (q.take i) (q.getD i default)
    rw [← take_snoc _ _ hlt] at hs
    have hmem := hqm _ (getD_mem hlt)
    have hlen := planL_len p en (q.take i)
    have hlen2 : (q.take i).length ≤ i := by simp; omega
    generalize q.getD i default = x at hs hmem ⊢
    refine ⟨⟨by omega, by omega⟩, trivial, PureW.mk (c9 _ _ _), cond_intro (fun h1 => ⟨fun _ => hv x hmem (by simpa using h1), cond_intro (fun h2 => ?_) fun h2 => ⟨trivial, trivial, e29 _ _ _ (by omega), ?_⟩⟩) fun h1 => cond_intro (fun h2 => ?_) fun h2 => ⟨trivial, trivial, e29 _ _ _ (by omega), ?_⟩⟩
    · have ht : thinB p en x = false := by simp only [thinB, h1, cond_true]; exact (Bool.not_eq_true' _).mp h2
      rw [ht] at hs
      refine Nx.of (i + 1) (by omega) (by omega) ?_
      rw [hs]; simp only [Bool.false_eq_true, if_false, List.append_nil]; exact StLe.refl _ _
    · have ht : thinB p en x = true := by simp only [thinB, h1, cond_true]; exact (Bool.not_eq_false' _).mp h2
      rw [ht] at hs
      refine Nx.of (i + 1) (by omega) (by omega) ?_
      rw [hs]; exact StLe.refl _ _
    · have ht : thinB p en x = false := by simp only [thinB, h1, cond_false]; exact (Bool.not_eq_true' _).mp h2
      rw [ht] at hs
      refine Nx.of (i + 1) (by omega) (by omega) ?_
      rw [hs]; simp only [Bool.false_eq_true, if_false, List.append_nil]; exact StLe.refl _ _
    · have ht : thinB p en x = true := by simp only [thinB, h1, cond_false]; exact (Bool.not_eq_false' _).mp h2
      rw [ht] at hs
      refine Nx.of (i + 1) (by omega) (by omega) ?_
      rw [hs]; exact StLe.refl _ _
  · have := geI hge
    rw [List.take_of_length_le this]
    exact RetLe.refl _ _

theorem F14 : OkF 14 Try.f14 := ⟨by kernel_rfl, by kernel_rfl, by kernel_rfl⟩
def lv14 : List (List Nat × List Nat) := [([1, 1, 1, 0], [2, 3, 5])]
noncomputable def n14s (p : Pol) (d : Dir) : List Nat → Nat → Option Ans := scrAt [([1, 0, 0], 1, Ans.pure [p.d] (B (polOk p))), ([1, 0, 0], 5, Ans.pure [d.d] (B (dirOk d)))]
theorem n14 (p : Pol) (d : Dir) (K : D → Heap → Prop) : runS (EnX [5] Try.f14) (fh Try.f14 K) (n14s p d) lv14 200 [.code []] ⟨argSlots 0 [p.d, d.d], .empty⟩ =
  (PureW PP 11 [p.d] [p.d] (B (polOk p)) ∧ ((!!polOk p) = true → PureW PP 27 [d.d] [d.d] (B (dirOk d))) ∧ bif bif !polOk p then true else !dirOk d then K (.list 0 0 (fun x => D.junk) .full) Heap.empty else True ∧ At (EnX [5] Try.f14) (fh Try.f14 K) [It.code [1, 1, 1, 0], It.code [1, 1, 1, 1]] { sl := [(2, .own [I p.full, I p.smp, I p.stp]), (3, .own [I d.hdr.sec, I d.hdr.len, I d.hdr.sum, L d.blk 7 Ent.d]), (5, D.bp 0 0)], h := { box := upd (fun x => none) 0 (some (Row.lit [.list 0 0 (fun x => D.junk) .full])), nl := 0 + 1, hw := fun x => none, nt := 0 : Heap } : St }) := by kernel_rfl
def S14 (p : Pol) (d : Dir) : St := ⟨[(2, .own [I p.full, I p.smp, I p.stp]), (3, .own [I d.hdr.sec, I d.hdr.len, I d.hdr.sum, L d.blk 7 Ent.d]), (5, .bp 0 0)], H28 []⟩
noncomputable def n14as (p : Pol) (d : Dir) : List Nat → Nat → Option Ans := scrAt [([1, 1, 1, 0], 3, Ans.eff (.tup []) (H28 (planL p (endOf d) (List.take (d.blk.length - 1) d.blk))))]
theorem n14a (p : Pol) (d : Dir) (K : D → Heap → Prop) : runS (EnX [5] Try.f14) (fh Try.f14 K) (n14as p d) nolv 200 [.code [1, 1, 1, 0], .code [1, 1, 1, 1]] (S14 p d) =
  (Does PP 28 [.agg [I p.full, I p.smp, I p.stp], .agg [I d.hdr.sec, I d.hdr.len, I d.hdr.sum, L d.blk 7 Ent.d], D.clo 29 [D.bp 0 0]] { box := upd (fun x => none) 0 (some (Row.lit [.list 0 7 (fun i => Ent.d (List.getD [] i default)) (.tok 0 7)])), nl := 1, hw := upd (fun x => none) 0 (some 0), nt := 1 : Heap } (.tup []) (H28 (planL p (endOf d) (List.take (List.length d.blk - 1) d.blk))) ∧ K (.list (List.length (planL p (endOf d) (List.take (List.length d.blk - 1) d.blk))) 7 (fun i => Ent.d (List.getD (planL p (endOf d) (List.take (List.length d.blk - 1) d.blk)) i default)) (.tok 0 7)) { box := upd (fun x => none) 0 (some (Row.lit [.list (List.length (planL p (endOf d) (List.take (List.length d.blk - 1) d.blk))) 7 (fun i => Ent.d (List.getD (planL p (endOf d) (List.take (List.length d.blk - 1) d.blk)) i default)) (.tok 0 7)])), nl := 1, hw := upd (fun x => none) 0 (some (List.length (planL p (endOf d) (List.take (List.length d.blk - 1) d.blk)))), nt := 1 : Heap }) := by kernel_rfl
theorem dirOk_len {d : Dir} (h : dirOk d = true) : d.blk.length ≤ 32 := by
  unfold dirOk at h
  cases hc : (bif !fits d.hdr then true else decide ((d.blk.length : Int) > 32)) with
  | true => rw [hc] at h; cases h
  | false => simp at hc; omega
theorem entP_stp : ∀ (l : List Ent) (at_ : Int), entP at_ l = true → ∀ e ∈ l, e.lvl = 1 → e.stp ≠ 0
  | [], _, _ => fun e he => by cases he
  | x :: r, at_, h => by
    unfold entP at h
    cases hb : entBad at_ x with
    | true => rw [hb] at h; cases h
    | false =>
      rw [hb, cond_false] at h
      intro e he h1
      rcases List.mem_cons.1 he with rfl | he
      · intro h0
        unfold entBad at hb
        simp [h1, h0] at hb
      · exact entP_stp r x.to h e he h1
theorem dirOk_stp {d : Dir} (h : dirOk d = true) : ∀ e ∈ d.blk, e.lvl = 1 → e.stp ≠ 0 := by
  unfold dirOk at h
  cases hc : (bif !fits d.hdr then true else decide ((d.blk.length : Int) > 32)) with
  | true => rw [hc] at h; cases h
  | false =>
    rw [hc, cond_false] at h
    cases hp : entP (-1) d.blk with
    | false => rw [hp] at h; cases h
    | true => exact entP_stp _ _ hp
def plan (p : Pol) (d : Dir) : List Ent := bif bif !polOk p then true else !dirOk d then [] else planL p (endOf d) (d.blk.take (d.blk.length - 1))
theorem c14 (p : Pol) (d : Dir) : Pure PP 14 [p.d, d.d] (L (plan p d) 7 Ent.d) := by
  refine pr F14 (by kernel_rfl) (of_eq (n14 p d _) ⟨PureW.mk (c11 _), fun _ => PureW.mk (c27 _), cond_intro (fun h => ?_) fun h => ⟨trivial, ?_⟩⟩)
  · simp only [plan, h, cond_true]; exact ⟨_, RetLe.wk Wk.nilL rfl⟩
  · have hd : dirOk d = true := by
      cases h1 : polOk p <;> cases h2 : dirOk d <;> simp_all
    simp only [plan, h, cond_false]
    refine at_le ?_ (StLe.tokBox _ (es := ([] : List Ent)) (enc := Ent.d) (sz' := 7) rfl (.inl rfl))
    have hle := dirOk_len hd
    exact runS_sound hmix 200 _ _ (of_eq (n14a p d _) ⟨e28 p d (by omega) (dirOk_stp hd), _, RetLe.wk Wk.tokL rfl⟩)

theorem c30' (d : Dir) : Pure PP 30 [d.d] (B (dirOk d)) := by rw [← dirOk_eq]; exact c30 d

end Go.Proofs.Ytmlhaikblfjghaa.S1
