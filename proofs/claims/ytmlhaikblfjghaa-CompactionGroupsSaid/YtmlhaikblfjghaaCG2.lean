/- Seat 1: the reference's plans; equal lists. -/
import Derived.Test.YtmlhaikblfjghaaCG1
import Derived.Test.YtmlhaikblfjghaaRows
namespace Go.Proofs.Ytmlhaikblfjghaa.S1
open Go Go.Ab Go.Proofs
theorem F15 : OkF 15 Try.f15 := ⟨by kernel_rfl, by kernel_rfl, by kernel_rfl⟩
def lv15 : List (List Nat × List Nat) := [([1, 1, 1, 0, 1, 0], [2, 3, 5, 6])]
noncomputable def n15s (p : Pol) (d : Dir) : List Nat → Nat → Option Ans := scrAt [([1, 1, 0, 0], 1, Ans.pure [p.d] (B (polOk p))), ([1, 1, 0, 0], 5, Ans.pure [d.d] (B (dirOk d)))]
theorem n15 (p : Pol) (d : Dir) (K : D → Prop) : runS (En Try.f15) (fi Try.f15 K) (n15s p d) lv15 200 [.code []] ⟨argSlots 0 [p.d, d.d], .empty⟩ =
  (PureW PP 12 [p.d] [p.d] (B (polOk p)) ∧ ((!!polOk p) = true → PureW PP 30 [d.d] [d.d] (B (dirOk d))) ∧ bif bif !polOk p then true else !dirOk d then K (.list 0 7 (litG []) .full) else At (En Try.f15) (fi Try.f15 K) [It.code [1, 1, 1, 0, 1, 0], It.blk 0, It.code [1, 1, 1, 1]] { sl := [(2, .own [I p.full, I p.smp, I p.stp]), (3, .own [I d.hdr.sec, I d.hdr.len, I d.hdr.sum, L d.blk 7 Ent.d]), (5, .list 0 7 (litG []) .full), (6, I 0)], h := Heap.empty : St }) := by kernel_rfl
def S15 (p : Pol) (d : Dir) (out : List Ent) (i : Int) : St := ⟨[(2, .own [I p.full, I p.smp, I p.stp]), (3, .own [I d.hdr.sec, I d.hdr.len, I d.hdr.sum, L d.blk 7 Ent.d]), (5, LT out 7 Ent.d 0), (6, I i)], hT .empty out.length⟩
noncomputable def n15as (p : Pol) (d : Dir) (i : Int) : List Nat → Nat → Option Ans := scrAt [([1, 1, 1, 0, 1, 0, 0, 1, 0, 0, 1, 0], 3, Ans.pure [d.d] (I (endOf d))), ([1, 1, 1, 0, 1, 0, 0, 1, 0, 0, 1, 0], 4, Ans.pure [p.d, (d.blk.getD i.toNat default).d, I (endOf d)] (.tup [I (level p (d.blk.getD i.toNat default) (endOf d)).fst, I (level p (d.blk.getD i.toNat default) (endOf d)).snd]))]
theorem n15a (p : Pol) (d : Dir) (out : List Ent) (i : Int) (J : St → Prop) (K : D → Prop) : runS (En Try.f15) (fi Try.f15 K) (n15as p d i) lv15 200 [.code [1, 1, 1, 0, 1, 0, 0], stp [2, 3, 5, 6] J, .blk 0, .code [1, 1, 1, 1]] (S15 p d out i) =
  (d.blk.length ≤ lenM →
  bif decide (i < subI .i64 (↑d.blk.length : Int) 1) then
    (0 ≤ i ∧ i < (↑d.blk.length : Int)) ∧
      True ∧
        PureW PP 31 [d.d] [d.d] (I (endOf d)) ∧
          PureW PP 10 [p.d, (d.blk.getD i.toNat default).d, I (endOf d)] [p.d, (d.blk.getD i.toNat default).d, I (endOf d)] (.tup [I (level p (d.blk.getD i.toNat default) (endOf d)).fst, I (level p (d.blk.getD i.toNat default) (endOf d)).snd]) ∧
            ((bif bif (d.blk.getD i.toNat default).lvl == 1 then (level p (d.blk.getD i.toNat default) (endOf d)).fst == 1 else false then decide ((level p (d.blk.getD i.toNat default) (endOf d)).snd > (d.blk.getD i.toNat default).stp) else false) = true → (d.blk.getD i.toNat default).stp ≠ 0) ∧
              bif bif bif bif (d.blk.getD i.toNat default).lvl == 0 then (level p (d.blk.getD i.toNat default) (endOf d)).fst != 0 else false then true else bif (d.blk.getD i.toNat default).lvl == 1 then (level p (d.blk.getD i.toNat default) (endOf d)).fst == 2 else false then true else bif bif bif (d.blk.getD i.toNat default).lvl == 1 then (level p (d.blk.getD i.toNat default) (endOf d)).fst == 1 else false then decide ((level p (d.blk.getD i.toNat default) (endOf d)).snd > (d.blk.getD i.toNat default).stp) else false then (level p (d.blk.getD i.toNat default) (endOf d)).snd.tmod (d.blk.getD i.toNat default).stp == 0 else false then True ∧ True ∧ (upd (fun _ => none) 0 (some out.length) 0 = some out.length ∧ (out.length + 1) * 56 ≤ roomM) ∧ J { sl := [(2, .own [I p.full, I p.smp, I p.stp]), (3, .own [I d.hdr.sec, I d.hdr.len, I d.hdr.sum, L d.blk 7 Ent.d]), (5, .list (out.length + 1) 7 (catG out.length (fun i => (out.getD i default).d) (litG [.agg [I (d.blk.getD i.toNat default).frm, I (d.blk.getD i.toNat default).to, I (level p (d.blk.getD i.toNat default) (endOf d)).fst, I (level p (d.blk.getD i.toNat default) (endOf d)).snd, I (d.blk.getD i.toNat default).plc.sec, I (d.blk.getD i.toNat default).plc.len, I (d.blk.getD i.toNat default).plc.sum]])) (.tok 0 7)), (6, I (addI .i64 i 1))], h := { box := fun _ => none, nl := 0, hw := upd (upd (fun _ => none) 0 (some out.length)) 0 (some (out.length + 1)), nt := 1, vw := fun _ => none : Heap } : St }
              else J { sl := [(2, .own [I p.full, I p.smp, I p.stp]), (3, .own [I d.hdr.sec, I d.hdr.len, I d.hdr.sum, L d.blk 7 Ent.d]), (5, .list out.length 7 (fun i => (out.getD i default).d) (.tok 0 7)), (6, I (addI .i64 i 1))], h := { box := fun _ => none, nl := 0, hw := upd (fun _ => none) 0 (some out.length), nt := 1, vw := fun _ => none : Heap } : St }
  else K (.list out.length 7 (fun i => (out.getD i default).d) (.tok 0 7))) := by kernel_rfl
theorem thinR (p : Pol) (en : Int) (x : Ent) : (bif bif bif x.lvl == 0 then (level p x en).1 != 0 else false then true else bif x.lvl == 1 then (level p x en).1 == 2 else false then true
    else bif bif bif x.lvl == 1 then (level p x en).1 == 1 else false then decide ((level p x en).2 > x.stp) else false then (level p x en).2.tmod x.stp == 0 else false) = thinB p en x := by
  unfold thinB
  by_cases h1 : x.lvl = 1
  · simp [h1]
  · have : (x.lvl == 1) = false := by simpa using h1
    simp [this]
theorem c15 (p : Pol) (d : Dir) : Pure PP 15 [p.d, d.d] (L (plan p d) 7 Ent.d) := by
  refine pu F15 (by kernel_rfl) (of_eq (n15 p d _) ⟨PureW.mk (c12 _), fun _ => PureW.mk (c30' _), cond_intro (fun h => ?_) fun h => ?_⟩)
  · simp only [plan, h, cond_true]; exact Wk.nilL
  · have hd : dirOk d = true := by
      cases h1 : polOk p <;> cases h2 : dirOk d <;> simp_all
    simp only [plan, h, cond_false]
    have hle := dirOk_len hd
    have hv := dirOk_stp hd
    refine at_le (st' := S15 p d (planL p (endOf d) (d.blk.take 0)) (0 : Nat)) ?_ (StLe.tok0 _ (α := Ent) (enc := Ent.d) 5 7 rfl)
    refine lp (fn := Try.f15) (fun i : Nat => i ≤ d.blk.length - 1) (fun i => S15 p d (planL p (endOf d) (d.blk.take i)) i) (fun i => d.blk.length - i) [2, 3, 5, 6] (by kernel_rfl) (fun i hi => of_eq (n15a p d _ i _ _) fun hl => ?_) 0 (Nat.zero_le _)
    rw [sub64 (by omega) (by omega)]
    refine cond_intro (fun hlt => ?_) fun hge => ?_
    · have hlt : i < d.blk.length - 1 := by simp at hlt; omega
      rw [Int.toNat_natCast, add1 (show i < d.blk.length by omega) hl]
      have hs := planL_snoc p (endOf d) (d.blk.take i) (d.blk.getD i default)
      rw [← take_snoc _ _ (by omega)] at hs
      have hmem := getD_mem (l := d.blk) (i := i) (by omega)
      have hlen := planL_len p (endOf d) (d.blk.take i)
      have hlen2 : (d.blk.take i).length ≤ i := by simp; omega
      generalize d.blk.getD i default = x at hs hmem ⊢
      rw [thinR]
      refine ⟨⟨by omega, by omega⟩, trivial, PureW.mk (c31 _), PureW.mk (c10 _ _ _), fun hc => hv x hmem (by
        cases h1 : (x.lvl == 1) with
        | true => simpa using h1
        | false => rw [h1] at hc; simp at hc), cond_intro (fun h2 => ⟨trivial, trivial, ⟨rfl, by unfold roomM; omega⟩, ?_⟩) fun h2 => ?_⟩
      · rw [h2] at hs
        refine Nx.of (i + 1) (by omega) (by omega) ?_
        unfold S15
        rw [hs]
        exact (StLe.set 5 rfl (Wk.snoc (x := thinE p (endOf d) x)) rfl rfl).trans (StLe.heap (by simp [hT, upd_upd, Heap.empty]))
      · rw [h2] at hs
        refine Nx.of (i + 1) (by omega) (by omega) ?_
        rw [hs]; simp only [Bool.false_eq_true, if_false, List.append_nil]; exact StLe.refl _ _
    · have : i = d.blk.length - 1 := by simp at hge; omega
      rw [this]
      exact Wk.tokL
theorem F26 : OkF 26 Try.f26 := ⟨by kernel_rfl, by kernel_rfl, by kernel_rfl⟩
def lv26 : List (List Nat × List Nat) := [([1, 1, 0, 1, 0], [2, 3, 5])]
noncomputable def n26s  : List Nat → Nat → Option Ans := scrAt []
theorem n26 (a b : Dir) (K : D → Prop) : runS (En Try.f26) (fi Try.f26 K) (n26s ) lv26 200 [.code []] ⟨argSlots 0 [a.d, b.d], .empty⟩ =
  (((!!(a.hdr.sec == b.hdr.sec && (a.hdr.len == b.hdr.len && a.hdr.sum == b.hdr.sum))) = true → a.blk.length ≤ lenM) → ((!!(a.hdr.sec == b.hdr.sec && (a.hdr.len == b.hdr.len && a.hdr.sum == b.hdr.sum))) = true → b.blk.length ≤ lenM) → bif bif !(a.hdr.sec == b.hdr.sec && (a.hdr.len == b.hdr.len && a.hdr.sum == b.hdr.sum)) then true else (↑a.blk.length : Int) != (↑b.blk.length : Int) then K (B false) else At (En Try.f26) (fi Try.f26 K) [It.code [1, 1, 0, 1, 0], It.blk 0, It.code [1, 1, 1]] { sl := [(2, .own [I a.hdr.sec, I a.hdr.len, I a.hdr.sum, L a.blk 7 Ent.d]), (3, .own [I b.hdr.sec, I b.hdr.len, I b.hdr.sum, L b.blk 7 Ent.d]), (5, I 0)], h := Heap.empty : St }) := by kernel_rfl
def S26 (a b : Dir) (i : Int) : St := ⟨[(2, .own [I a.hdr.sec, I a.hdr.len, I a.hdr.sum, L a.blk 7 Ent.d]), (3, .own [I b.hdr.sec, I b.hdr.len, I b.hdr.sum, L b.blk 7 Ent.d]), (5, I i)], .empty⟩
noncomputable def n26as  : List Nat → Nat → Option Ans := scrAt []
theorem n26a (a b : Dir) (i : Int) (J : St → Prop) (K : D → Prop) : runS (En Try.f26) (fi Try.f26 K) (n26as ) lv26 200 [.code [1, 1, 0, 1, 0, 0], stp [2, 3, 5] J, .blk 0, .code [1, 1, 1]] (S26 a b i) =
  (a.blk.length ≤ lenM → bif decide (i < (↑a.blk.length : Int)) then (0 ≤ i ∧ i < (↑a.blk.length : Int)) ∧ (0 ≤ i ∧ i < (↑b.blk.length : Int)) ∧ bif !((a.blk.getD i.toNat default).frm == (b.blk.getD i.toNat default).frm && ((a.blk.getD i.toNat default).to == (b.blk.getD i.toNat default).to && ((a.blk.getD i.toNat default).lvl == (b.blk.getD i.toNat default).lvl && ((a.blk.getD i.toNat default).stp == (b.blk.getD i.toNat default).stp && ((a.blk.getD i.toNat default).plc.sec == (b.blk.getD i.toNat default).plc.sec && ((a.blk.getD i.toNat default).plc.len == (b.blk.getD i.toNat default).plc.len && (a.blk.getD i.toNat default).plc.sum == (b.blk.getD i.toNat default).plc.sum)))))) then K (B false) else J { sl := [(2, .own [I a.hdr.sec, I a.hdr.len, I a.hdr.sum, L a.blk 7 Ent.d]), (3, .own [I b.hdr.sec, I b.hdr.len, I b.hdr.sum, L b.blk 7 Ent.d]), (5, I (addI .i64 i 1))], h := Heap.empty : St } else K (B true)) := by kernel_rfl
theorem c26 (a : Dir) : Pure PP 26 [a.d, a.d] (B true) := by
  refine pu F26 (by kernel_rfl) (of_eq (n26 a a _) fun _ _ => cond_intro (fun h => by simp at h) fun h => ?_)
  refine lp (fn := Try.f26) (fun i : Nat => i ≤ a.blk.length) (fun i => S26 a a i) (fun i => a.blk.length - i) [2, 3, 5] (by kernel_rfl) (fun i hi => of_eq (n26a a a i _ _) fun hl => cond_intro (fun hlt => ?_) fun hge => ?_) 0 (Nat.zero_le _)
  · have hlt := ltI hlt
    rw [add1 hlt hl]
    refine ⟨⟨by omega, by omega⟩, ⟨by omega, by omega⟩, cond_intro (fun h => by simp at h) fun h => Nx.mk (i + 1) (by omega) (by omega)⟩
  · exact Wk.refl _
theorem F13 : OkF 13 Try.f13 := ⟨by kernel_rfl, by kernel_rfl, by kernel_rfl⟩
def lv13 : List (List Nat × List Nat) := []
noncomputable def n13s (a : List Ent) : List Nat → Nat → Option Ans := scrAt [([1, 0], 4, Ans.pure [{ hdr := { sec := 0, len := 0, sum := 0 : Xt }, blk := a : Dir }.d, { hdr := { sec := 0, len := 0, sum := 0 : Xt }, blk := a : Dir }.d] (B true))]
theorem n13 (a : List Ent) (K : D → Prop) : runS (En Try.f13) (fi Try.f13 K) (n13s a) lv13 200 [.code []] ⟨argSlots 0 [L a 7 Ent.d, L a 7 Ent.d], .empty⟩ =
  (PureW PP 26 [{ hdr := { sec := 0, len := 0, sum := 0 : Xt }, blk := a : Dir }.d, { hdr := { sec := 0, len := 0, sum := 0 : Xt }, blk := a : Dir }.d] [{ hdr := { sec := 0, len := 0, sum := 0 : Xt }, blk := a : Dir }.d, { hdr := { sec := 0, len := 0, sum := 0 : Xt }, blk := a : Dir }.d] (B true) ∧ K (B true)) := by kernel_rfl
theorem c13 (a : List Ent) : Pure PP 13 [L a 7 Ent.d, L a 7 Ent.d] (B true) := pu F13 (by kernel_rfl) (of_eq (n13 a _) ⟨PureW.mk (c26 ⟨⟨0, 0, 0⟩, a⟩), Wk.refl _⟩)
theorem F8 : OkF 8 Try.f8 := ⟨by kernel_rfl, by kernel_rfl, by kernel_rfl⟩
def lv8 : List (List Nat × List Nat) := []
noncomputable def n8s  : List Nat → Nat → Option Ans := scrAt [([1, 1, 0], 2, Ans.pure [{ full := 10, smp := 30, stp := 5 : Pol }.d, { frm := 0, to := 45, lvl := 0, stp := 0, plc := { sec := 0, len := 0, sum := 0 : Xt } : Ent }.d, I 50] (.tup [I (level { full := 10, smp := 30, stp := 5 : Pol } { frm := 0, to := 45, lvl := 0, stp := 0, plc := { sec := 0, len := 0, sum := 0 : Xt } : Ent } 50).fst, I (level { full := 10, smp := 30, stp := 5 : Pol } { frm := 0, to := 45, lvl := 0, stp := 0, plc := { sec := 0, len := 0, sum := 0 : Xt } : Ent } 50).snd])), ([1, 1, 1, 0], 2, Ans.pure [{ full := 10, smp := 30, stp := 5 : Pol }.d, { frm := 0, to := 39, lvl := 0, stp := 0, plc := { sec := 0, len := 0, sum := 0 : Xt } : Ent }.d, I 50] (.tup [I (level { full := 10, smp := 30, stp := 5 : Pol } { frm := 0, to := 39, lvl := 0, stp := 0, plc := { sec := 0, len := 0, sum := 0 : Xt } : Ent } 50).fst, I (level { full := 10, smp := 30, stp := 5 : Pol } { frm := 0, to := 39, lvl := 0, stp := 0, plc := { sec := 0, len := 0, sum := 0 : Xt } : Ent } 50).snd])), ([1, 1, 1, 1, 0], 2, Ans.pure [{ full := 10, smp := 30, stp := 5 : Pol }.d, { frm := 0, to := 19, lvl := 0, stp := 0, plc := { sec := 0, len := 0, sum := 0 : Xt } : Ent }.d, I 50] (.tup [I (level { full := 10, smp := 30, stp := 5 : Pol } { frm := 0, to := 19, lvl := 0, stp := 0, plc := { sec := 0, len := 0, sum := 0 : Xt } : Ent } 50).fst, I (level { full := 10, smp := 30, stp := 5 : Pol } { frm := 0, to := 19, lvl := 0, stp := 0, plc := { sec := 0, len := 0, sum := 0 : Xt } : Ent } 50).snd])),
  ([1, 1, 1, 1, 1, 0], 8, Ans.pure [{ full := 10, smp := 30, stp := 5 : Pol }.d, { hdr := { sec := 4, len := 1, sum := 0 : Xt }, blk := [{ frm := -1, to := 39, lvl := 0, stp := 0, plc := { sec := 5, len := 1, sum := 0 : Xt } : Ent }, { frm := 39, to := 50, lvl := 0, stp := 0, plc := { sec := 6, len := 1, sum := 0 : Xt } : Ent }] : Dir }.d] (L (plan { full := 10, smp := 30, stp := 5 : Pol } { hdr := { sec := 4, len := 1, sum := 0 : Xt }, blk := [{ frm := -1, to := 39, lvl := 0, stp := 0, plc := { sec := 5, len := 1, sum := 0 : Xt } : Ent }, { frm := 39, to := 50, lvl := 0, stp := 0, plc := { sec := 6, len := 1, sum := 0 : Xt } : Ent }] : Dir }) 7 Ent.d)), ([1, 1, 1, 1, 1, 1, 0], 1, Ans.pure [{ full := 10, smp := 30, stp := 5 : Pol }.d] (B (polOk { full := 10, smp := 30, stp := 5 : Pol })))]
theorem n8  (K : D → Prop) : runS (En Try.f8) (fi Try.f8 K) (n8s ) lv8 200 [.code []] ⟨argSlots 0 [], .empty⟩ =
  (True ∧
  PureW PP 9 [{ full := 10, smp := 30, stp := 5 : Pol }.d, { frm := 0, to := 45, lvl := 0, stp := 0, plc := { sec := 0, len := 0, sum := 0 : Xt } : Ent }.d, I 50] [{ full := 10, smp := 30, stp := 5 : Pol }.d, { frm := 0, to := 45, lvl := 0, stp := 0, plc := { sec := 0, len := 0, sum := 0 : Xt } : Ent }.d, I 50] (.tup [I (level { full := 10, smp := 30, stp := 5 : Pol } { frm := 0, to := 45, lvl := 0, stp := 0, plc := { sec := 0, len := 0, sum := 0 : Xt } : Ent } 50).fst, I (level { full := 10, smp := 30, stp := 5 : Pol } { frm := 0, to := 45, lvl := 0, stp := 0, plc := { sec := 0, len := 0, sum := 0 : Xt } : Ent } 50).snd]) ∧
    PureW PP 9 [{ full := 10, smp := 30, stp := 5 : Pol }.d, { frm := 0, to := 39, lvl := 0, stp := 0, plc := { sec := 0, len := 0, sum := 0 : Xt } : Ent }.d, I 50] [{ full := 10, smp := 30, stp := 5 : Pol }.d, { frm := 0, to := 39, lvl := 0, stp := 0, plc := { sec := 0, len := 0, sum := 0 : Xt } : Ent }.d, I 50] (.tup [I (level { full := 10, smp := 30, stp := 5 : Pol } { frm := 0, to := 39, lvl := 0, stp := 0, plc := { sec := 0, len := 0, sum := 0 : Xt } : Ent } 50).fst, I (level { full := 10, smp := 30, stp := 5 : Pol } { frm := 0, to := 39, lvl := 0, stp := 0, plc := { sec := 0, len := 0, sum := 0 : Xt } : Ent } 50).snd]) ∧
      PureW PP 9 [{ full := 10, smp := 30, stp := 5 : Pol }.d, { frm := 0, to := 19, lvl := 0, stp := 0, plc := { sec := 0, len := 0, sum := 0 : Xt } : Ent }.d, I 50] [{ full := 10, smp := 30, stp := 5 : Pol }.d, { frm := 0, to := 19, lvl := 0, stp := 0, plc := { sec := 0, len := 0, sum := 0 : Xt } : Ent }.d, I 50] (.tup [I (level { full := 10, smp := 30, stp := 5 : Pol } { frm := 0, to := 19, lvl := 0, stp := 0, plc := { sec := 0, len := 0, sum := 0 : Xt } : Ent } 50).fst, I (level { full := 10, smp := 30, stp := 5 : Pol } { frm := 0, to := 19, lvl := 0, stp := 0, plc := { sec := 0, len := 0, sum := 0 : Xt } : Ent } 50).snd]) ∧
        PureW PP 14 [.agg [I 10, I 30, I 5], .agg [I 4, I 1, I 0, .list 2 7 (litG [.agg [I (-1), I 39, I 0, I 0, I 5, I 1, I 0], .agg [I 39, I 50, I 0, I 0, I 6, I 1, I 0]]) .full]] [{ full := 10, smp := 30, stp := 5 : Pol }.d, { hdr := { sec := 4, len := 1, sum := 0 : Xt }, blk := [{ frm := -1, to := 39, lvl := 0, stp := 0, plc := { sec := 5, len := 1, sum := 0 : Xt } : Ent }, { frm := 39, to := 50, lvl := 0, stp := 0, plc := { sec := 6, len := 1, sum := 0 : Xt } : Ent }] : Dir }.d] (L (plan { full := 10, smp := 30, stp := 5 : Pol } { hdr := { sec := 4, len := 1, sum := 0 : Xt }, blk := [{ frm := -1, to := 39, lvl := 0, stp := 0, plc := { sec := 5, len := 1, sum := 0 : Xt } : Ent }, { frm := 39, to := 50, lvl := 0, stp := 0, plc := { sec := 6, len := 1, sum := 0 : Xt } : Ent }] : Dir }) 7 Ent.d) ∧ PureW PP 11 [{ full := 10, smp := 30, stp := 5 : Pol }.d] [{ full := 10, smp := 30, stp := 5 : Pol }.d] (B (polOk { full := 10, smp := 30, stp := 5 : Pol })) ∧ ((true = true → 1 ≤ lenM) → (true = true → (0 : Int) ≤ 0 ∧ 0 < (↑1 : Int)) ∧ K (B true))) := by kernel_rfl
theorem c8 : Pure PP 8 [] (B true) := by
  refine pu F8 (by kernel_rfl) (of_eq (n8 _) ⟨trivial, PureW.mk (c9 _ _ _), PureW.mk (c9 _ _ _), PureW.mk (c9 _ _ _), pw (Wks.cons (Wk.refl _) (Wks.cons (Wk.agg ?_) Wks.nil)) (c14 _ _), PureW.mk (c11 _), fun _ => ⟨fun _ => ⟨by decide, by decide⟩, Wk.refl _⟩⟩)
  exact Wks.cons (Wk.refl _) (Wks.cons (Wk.refl _) (Wks.cons (Wk.refl _) (Wks.cons (Wk.litL rfl rfl) Wks.nil)))
theorem F3 : OkF 3 Try.f3 := ⟨by kernel_rfl, by kernel_rfl, by kernel_rfl⟩
def lv3 : List (List Nat × List Nat) := []
noncomputable def n3s (p : Pol) (d : Dir) (e : Ent) (n : Int) : List Nat → Nat → Option Ans := scrAt [([1, 0, 0], 0, Ans.pure [] (B true)), ([1, 1, 1, 0], 3, Ans.pure [p.d, e.d, I n] (.tup [I (level p e n).fst, I (level p e n).snd])), ([1, 1, 1, 1, 0], 3, Ans.pure [p.d, e.d, I n] (.tup [I (level p e n).fst, I (level p e n).snd])), ([1, 1, 1, 1, 1, 0], 1, Ans.pure [p.d] (B (polOk p))), ([1, 1, 1, 1, 1, 0], 3, Ans.pure [p.d] (B (polOk p))), ([1, 1, 1, 1, 1, 0], 18, Ans.pure [p.d, d.d] (L (plan p d) 7 Ent.d)), ([1, 1, 1, 1, 1, 0], 21, Ans.pure [p.d, d.d] (L (plan p d) 7 Ent.d)), ([1, 1, 1, 1, 1, 0], 22, Ans.pure [L (plan p d) 7 Ent.d, L (plan p d) 7 Ent.d] (B true))]
theorem n3 (p : Pol) (d : Dir) (e : Ent) (n : Int) (K : D → Prop) : runS (En Try.f3) (fi Try.f3 K) (n3s p d e n) lv3 200 [.code []] ⟨argSlots 0 [p.d, d.d, e.d, I n], .empty⟩ =
  (PureW PP 8 [] [] (B true) ∧ (d.blk.length ≤ lenM → bif decide ((↑d.blk.length : Int) > 40) then K (B true) else PureW PP 9 [p.d, e.d, I n] [p.d, e.d, I n] (.tup [I (level p e n).fst, I (level p e n).snd]) ∧ PureW PP 10 [p.d, e.d, I n] [p.d, e.d, I n] (.tup [I (level p e n).fst, I (level p e n).snd]) ∧ PureW PP 11 [p.d] [p.d] (B (polOk p)) ∧ PureW PP 12 [p.d] [p.d] (B (polOk p)) ∧ ((bif bif polOk p == polOk p then (level p e n).fst == (level p e n).fst else false then (level p e n).snd == (level p e n).snd else false) = true → PureW PP 14 [p.d, d.d] [p.d, d.d] (L (plan p d) 7 Ent.d)) ∧ ((bif bif polOk p == polOk p then (level p e n).fst == (level p e n).fst else false then (level p e n).snd == (level p e n).snd else false) = true → PureW PP 15 [p.d, d.d] [p.d, d.d] (L (plan p d) 7 Ent.d)) ∧ ((bif bif polOk p == polOk p then (level p e n).fst == (level p e n).fst else false then (level p e n).snd == (level p e n).snd else false) = true → PureW PP 13 [L (plan p d) 7 Ent.d, L (plan p d) 7 Ent.d] [L (plan p d) 7 Ent.d, L (plan p d) 7 Ent.d] (B true)) ∧ K (B (bif bif bif polOk p == polOk p then (level p e n).fst == (level p e n).fst else false then (level p e n).snd == (level p e n).snd else false then true else false)))) := by kernel_rfl
theorem c3 (p : Pol) (d : Dir) (e : Ent) (n : Int) : Pure PP 3 [p.d, d.d, e.d, I n] (B true) := by
  refine pu F3 (by kernel_rfl) (of_eq (n3 p d e n _) ⟨PureW.mk c8, fun _ => cond_intro (fun _ => Wk.refl _) fun _ => ⟨PureW.mk (c9 _ _ _), PureW.mk (c10 _ _ _), PureW.mk (c11 _), PureW.mk (c12 _), fun _ => PureW.mk (c14 _ _), fun _ => PureW.mk (c15 _ _), fun _ => PureW.mk (c13 _), Wk.of_eq (by simp)⟩⟩)
end Go.Proofs.Ytmlhaikblfjghaa.S1
/- Seat 1: the arguments read. -/
namespace Go.Proofs.Ytmlhaikblfjghaa.S1
open Go Go.Ab Go.Proofs
open Go.ChangeShapes Go.WideShapes Go.ChangeAt Go.RowKit Go.Joins

abbrev any {α : Type} : α → Prop := fun _ => True
theorem rc {P : Program} {total : Nat} {f : Field} {fs : List Field} {off off' t : Nat} {α β : Type} {enc : α → D} {encF : β → List D} (h : Reads P t enc any) (k : ReadsF P total fs off' encF any) (ht : f.type = t) (ho : f.offset = off) (hs : off + P.cellsOf t = off') :
    ReadsF P total (f :: fs) off (fun x : α × β => cellsD (enc x.1) ++ encF x.2) any := by
  subst ht; subst hs
  have hc := ReadsF.cons h k ho
  exact ⟨hc.size, hc.ones, hc.data, fun a b => by obtain ⟨x, _, hr⟩ := hc.it a b; exact ⟨x, trivial, hr⟩⟩
theorem rn {P : Program} {total : Nat} : ReadsF P total [] total (fun _ : Unit => []) any := ReadsF.nil
theorem cells3 : Try.prog.cellsOf 3 = 1 := by kernel_rfl
theorem cells23 : Try.prog.cellsOf 23 = 3 := by kernel_rfl
theorem cells25 : Try.prog.cellsOf 25 = 3 := by kernel_rfl
theorem cells26 : Try.prog.cellsOf 26 = 1 := by kernel_rfl
theorem cells28 : Try.prog.cellsOf 28 = 4 := by kernel_rfl
theorem cells30 : Try.prog.cellsOf 30 = 7 := by kernel_rfl
theorem rI : Reads Try.prog 3 (fun n : Int => I n) any := (Reads.int Try.underlying3 cells3).map (fun n => n) (fun _ => rfl) (fun n => ⟨n, rfl⟩) fun _ _ => trivial
theorem rXt : Reads Try.prog 25 Xt.d any := by
  refine (Reads.struct (ok := any) Try.underlying25 ?_).map (fun x : Int × Int × Int × Unit => (⟨x.1, x.2.1, x.2.2.1⟩ : Xt)) (fun _ => rfl) (fun b => ⟨(b.sec, b.len, b.sum, ()), rfl⟩) fun _ _ => trivial
  rw [cells25]
  exact rc rI (rc rI (rc rI rn rfl rfl (by rw [cells3])) rfl rfl (by rw [cells3])) rfl rfl (by rw [cells3])
theorem rPol : Reads Try.prog 23 Pol.d any := by
  refine (Reads.struct (ok := any) Try.underlying23 ?_).map (fun x : Int × Int × Int × Unit => (⟨x.1, x.2.1, x.2.2.1⟩ : Pol)) (fun _ => rfl) (fun b => ⟨(b.full, b.smp, b.stp, ()), rfl⟩) fun _ _ => trivial
  rw [cells23]
  exact rc rI (rc rI (rc rI rn rfl rfl (by rw [cells3])) rfl rfl (by rw [cells3])) rfl rfl (by rw [cells3])
theorem rEnt : Reads Try.prog 30 Ent.d any := by
  refine (Reads.struct (ok := any) Try.underlying30 ?_).map (fun x : Int × Int × Int × Int × Xt × Unit => (⟨x.1, x.2.1, x.2.2.1, x.2.2.2.1, x.2.2.2.2.1⟩ : Ent)) (fun _ => rfl) (fun b => ⟨(b.frm, b.to, b.lvl, b.stp, b.plc, ()), rfl⟩) fun _ _ => trivial
  rw [cells30]
  exact rc rI (rc rI (rc rI (rc rI (rc rXt rn rfl rfl (by rw [cells25])) rfl rfl (by rw [cells3])) rfl rfl (by rw [cells3])) rfl rfl (by rw [cells3])) rfl rfl (by rw [cells3])
theorem rEnts : Reads Try.prog 26 (fun es : List Ent => L es 7 Ent.d) any := by
  have h := Reads.slice rEnt Try.underlying26 cells26 (by rw [cells30]; decide)
  rw [cells30] at h
  exact h.map (fun n => n) (fun _ => rfl) (fun n => ⟨n, rfl⟩) fun _ _ => trivial
theorem rDir : Reads Try.prog 28 Dir.d any := by
  refine (Reads.struct (ok := any) Try.underlying28 ?_).map (fun x : Xt × List Ent × Unit => (⟨x.1, x.2.1⟩ : Dir)) (fun _ => rfl) (fun b => ⟨(b.hdr, b.blk, ()), rfl⟩) fun _ _ => trivial
  rw [cells28]
  exact rc rXt (rc rEnts rn rfl rfl (by rw [cells26])) rfl rfl (by rw [cells25])
theorem own : ownKnob Try.prog.godebug = none := by kernel_rfl
theorem laid : laidOutB Try.prog = true := by kernel_rfl
end Go.Proofs.Ytmlhaikblfjghaa.S1
/- Seat 1: groups of blocks. -/
namespace Go.Proofs.Ytmlhaikblfjghaa.S1
open Go Go.Ab Go.Proofs
theorem F42 : OkF 42 Try.f42 := ⟨by kernel_rfl, by kernel_rfl, by kernel_rfl⟩
def lv42 : List (List Nat × List Nat) := [([1, 1, 0, 1, 0], [1, 2, 5, 6]), ([1, 1, 0, 1, 0, 0, 1, 0, 1, 0, 0], [1, 2, 5, 6, 7, 8])]
noncomputable def n42s  : List Nat → Nat → Option Ans := scrAt []
theorem n42 (d : Dir) (m : Int) (K : D → Prop) : runS (En Try.f42) (fi Try.f42 K) (n42s ) lv42 200 [.code []] ⟨argSlots 0 [d.d, I m], .empty⟩ =
  (At (En Try.f42) (fi Try.f42 K) [It.code [1, 1, 0, 1, 0], It.blk 0, It.code [1, 1, 1]] { sl := [(1, I m), (2, .own [I d.hdr.sec, I d.hdr.len, I d.hdr.sum, L d.blk 7 Ent.d]), (5, .list 0 0 (fun _ => D.junk) .full), (6, I 0)], h := Heap.empty : St }) := by kernel_rfl
def S42 (d : Dir) (m : Int) (out : List Rg) (i : Int) : St := ⟨[(1, I m), (2, .own [I d.hdr.sec, I d.hdr.len, I d.hdr.sum, L d.blk 7 Ent.d]), (5, LT out 2 Rg.d 0), (6, I i)], hT .empty out.length⟩
noncomputable def n42as  : List Nat → Nat → Option Ans := scrAt []
theorem n42a (d : Dir) (m : Int) (out : List Rg) (i : Int) (J : St → Prop) (K : D → Prop) : runS (En Try.f42) (fi Try.f42 K) (n42as ) lv42 200 [.code [1, 1, 0, 1, 0, 0], stp [1, 2, 5, 6] J, .blk 0, .code [1, 1, 1]] (S42 d m out i) =
  (d.blk.length ≤ lenM → bif decide (i < (↑d.blk.length : Int)) then At (En Try.f42) (fi Try.f42 K) [It.code [1, 1, 0, 1, 0, 0, 1, 0, 1, 0, 0], It.blk 2, It.code [1, 1, 0, 1, 0, 0, 1, 0, 1, 1], It.blk 1, stp [1, 2, 5, 6] J, It.blk 0, It.code [1, 1, 1]] { sl := [(1, I m), (2, .own [I d.hdr.sec, I d.hdr.len, I d.hdr.sum, L d.blk 7 Ent.d]), (5, .list out.length 2 (fun i => (out.getD i default).d) (.tok 0 2)), (6, I i), (7, I 0), (8, I 0)], h := { box := fun _ => none, nl := 0, hw := upd (fun _ => none) 0 (some out.length), nt := 1, vw := fun _ => none : Heap } : St } else K (.list out.length 2 (fun i => (out.getD i default).d) (.tok 0 2))) := by kernel_rfl
def T42 (d : Dir) (m : Int) (out : List Rg) (i n total : Int) : St := ⟨[(1, I m), (2, .own [I d.hdr.sec, I d.hdr.len, I d.hdr.sum, L d.blk 7 Ent.d]), (5, LT out 2 Rg.d 0), (6, I i), (7, I n), (8, I total)], hT .empty out.length⟩
noncomputable def n42bs  : List Nat → Nat → Option Ans := scrAt []
theorem n42b (d : Dir) (m : Int) (out : List Rg) (i n total : Int) (J J2 : St → Prop) (K : D → Prop) : runS (En Try.f42) (fi Try.f42 K) (n42bs ) lv42 200 [.code [1, 1, 0, 1, 0, 0, 1, 0, 1, 0, 0, 0], stp [1, 2, 5, 6, 7, 8] J, .blk 2, .code [1, 1, 0, 1, 0, 0, 1, 0, 1, 1], .blk 1, stp [1, 2, 5, 6] J2, .blk 0, .code [1, 1, 1]] (T42 d m out i n total) =
  (d.blk.length ≤ lenM →
  (decide (addI .i64 i n < (↑d.blk.length : Int)) = true → 0 ≤ addI .i64 i n ∧ addI .i64 i n < (↑d.blk.length : Int)) ∧
    (((bif decide (addI .i64 i n < (↑d.blk.length : Int)) then (d.blk.getD (addI .i64 i n).toNat default).lvl == 0 else false) && !n == 0) = true → 0 ≤ addI .i64 i n ∧ addI .i64 i n < (↑d.blk.length : Int)) ∧
      bif bif bif decide (addI .i64 i n < (↑d.blk.length : Int)) then (d.blk.getD (addI .i64 i n).toNat default).lvl == 0 else false then bif n == 0 then true else decide (addI .i64 total (d.blk.getD (addI .i64 i n).toNat default).plc.len ≤ m) else false then (0 ≤ addI .i64 i n ∧ addI .i64 i n < (↑d.blk.length : Int)) ∧ J { sl := [(1, I m), (2, .own [I d.hdr.sec, I d.hdr.len, I d.hdr.sum, L d.blk 7 Ent.d]), (5, .list out.length 2 (fun i => (out.getD i default).d) (.tok 0 2)), (6, I i), (7, I (addI .i64 n 1)), (8, I (addI .i64 total (d.blk.getD (addI .i64 i n).toNat default).plc.len))], h := { box := fun _ => none, nl := 0, hw := upd (fun _ => none) 0 (some out.length), nt := 1, vw := fun _ => none : Heap } : St }
      else bif decide (n ≥ 2) then (upd (fun _ => none) 0 (some out.length) 0 = some out.length ∧ (out.length + 1) * 16 ≤ roomM) ∧ J2 { sl := [(1, I m), (2, .own [I d.hdr.sec, I d.hdr.len, I d.hdr.sum, L d.blk 7 Ent.d]), (5, .list (out.length + 1) 2 (catG out.length (fun i => (out.getD i default).d) (litG [.agg [I i, I n]])) (.tok 0 2)), (6, I (addI .i64 i (if 1 > n then 1 else n)))], h := { box := fun _ => none, nl := 0, hw := upd (upd (fun _ => none) 0 (some out.length)) 0 (some (out.length + 1)), nt := 1, vw := fun _ => none : Heap } : St } else J2 { sl := [(1, I m), (2, .own [I d.hdr.sec, I d.hdr.len, I d.hdr.sum, L d.blk 7 Ent.d]), (5, .list out.length 2 (fun i => (out.getD i default).d) (.tok 0 2)), (6, I (addI .i64 i (if 1 > n then 1 else n)))], h := { box := fun _ => none, nl := 0, hw := upd (fun _ => none) 0 (some out.length), nt := 1, vw := fun _ => none : Heap } : St }) := by kernel_rfl

/-- How many blocks from here on are joined, n of them (of so many bytes) taken. -/
def runG (m : Int) : Nat → Int → List Ent → Nat
  | n, _, [] => n
  | n, total, x :: r => bif (bif x.lvl == 0 then bif (n : Int) == 0 then true else decide (addI .i64 total x.plc.len ≤ m) else false) then runG m (n + 1) (addI .i64 total x.plc.len) r else n
def grps (m : Int) : Nat → Nat → List Ent → List Rg
  | 0, _, _ => []
  | _ + 1, _, [] => []
  | k + 1, i, x :: r => (if 2 ≤ runG m 0 0 (x :: r) then [⟨i, runG m 0 0 (x :: r)⟩] else []) ++ grps m k (i + max (runG m 0 0 (x :: r)) 1) ((x :: r).drop (max (runG m 0 0 (x :: r)) 1))
def groups (d : Dir) (m : Int) : List Rg := grps m (d.blk.length + 1) 0 d.blk
theorem c42 (d : Dir) (m : Int) (hm : d.blk.length ≤ 1000) : Pure PP 42 [d.d, I m] (L (groups d m) 2 Rg.d) := by
  refine pu F42 (by kernel_rfl) (of_eq (n42 d m _) ?_)
  refine at_le (st' := S42 d m [] (0 : Nat)) ?_ (StLe.tok0 _ (α := Rg) (enc := Rg.d) 5 2 rfl)
  refine lp (fn := Try.f42) (fun x : Nat × List Rg × Nat => x.1 ≤ d.blk.length ∧ d.blk.length - x.1 < x.2.2 ∧ x.2.1.length ≤ x.1 ∧ groups d m = x.2.1 ++ grps m x.2.2 x.1 (d.blk.drop x.1)) (fun x => S42 d m x.2.1 x.1) (fun x => d.blk.length - x.1) [1, 2, 5, 6] (by kernel_rfl)
    (fun x hx => of_eq (n42a d m x.2.1 x.1 _ _) ?_) (0, [], d.blk.length + 1) ⟨Nat.zero_le _, by simp, by simp, rfl⟩
  obtain ⟨i, out, k⟩ := x
  obtain ⟨hi, hk, ho, hg⟩ := hx
  simp only at hi hk ho hg ⊢
  refine fun hl => cond_intro (fun hlt => ?_) fun hge => ?_
  · have hlt2 := ltI hlt
    refine lp (fn := Try.f42) (fun y : Nat × Int => i + y.1 ≤ d.blk.length ∧ runG m 0 0 (d.blk.drop i) = runG m y.1 y.2 (d.blk.drop (i + y.1))) (fun y => T42 d m out i y.1 y.2) (fun y => d.blk.length - i - y.1) [1, 2, 5, 6, 7, 8] (by kernel_rfl)
      (fun y hy => of_eq (n42b d m out i y.1 y.2 _ _ _) ?_) (0, 0) ⟨hi, rfl⟩
    obtain ⟨n, total⟩ := y
    obtain ⟨hn, hr⟩ := hy
    simp only at hn hr ⊢
    have ha : addI .i64 (i : Int) (n : Int) = ((i + n : Nat) : Int) := by rw [add64 (by omega) (by omega)]; rfl
    rw [ha, Int.toNat_natCast]
    refine fun _ => ⟨fun h => ⟨by omega, by simpa using h⟩, fun h => ?_, cond_intro (fun hc => ⟨?_, ?_⟩) fun hc => ?_⟩
    · have : i + n < d.blk.length := by
        rcases Nat.lt_or_ge (i + n) d.blk.length with h1 | h1
        · exact h1
        · have : decide (((i + n : Nat) : Int) < (d.blk.length : Int)) = false := by simp; omega
          rw [this] at h; simp at h
      exact ⟨by omega, by omega⟩
    · have : i + n < d.blk.length := by
        rcases Nat.lt_or_ge (i + n) d.blk.length with h1 | h1
        · exact h1
        · have : decide (((i + n : Nat) : Int) < (d.blk.length : Int)) = false := by simp; omega
          rw [this] at hc; simp at hc
      exact ⟨by omega, by omega⟩
    · have hin : i + n < d.blk.length := by
        rcases Nat.lt_or_ge (i + n) d.blk.length with h1 | h1
        · exact h1
        · have : decide (((i + n : Nat) : Int) < (d.blk.length : Int)) = false := by simp; omega
          rw [this] at hc; simp at hc
      have hd : decide (((i + n : Nat) : Int) < (d.blk.length : Int)) = true := by simp; omega
      rw [hd, cond_true] at hc
      rw [drop_cons _ _ hin] at hr
      have hn1 : addI .i64 (n : Int) 1 = ((n + 1 : Nat) : Int) := by rw [add64 (by omega) (by omega)]; rfl
      rw [hn1]
      refine Nx.mk (n + 1, addI .i64 total (d.blk.getD (i + n) default).plc.len) ⟨by simp only; omega, ?_⟩ (by simp only; omega)
      rw [hr]
      simp only [runG, hc, cond_true]
      rfl
    · have hrun : runG m 0 0 (d.blk.drop i) = n := by
        rw [hr]
        rcases Nat.lt_or_ge (i + n) d.blk.length with h1 | h1
        · have hd : decide (((i + n : Nat) : Int) < (d.blk.length : Int)) = true := by simp; omega
          rw [hd, cond_true] at hc
          rw [drop_cons _ _ h1]
          simp only [runG, hc, cond_false]
        · rw [List.drop_of_length_le h1]; rfl
      have hmx : addI .i64 (i : Int) (if 1 > (n : Int) then 1 else (n : Int)) = ((i + max n 1 : Nat) : Int) := by
        split <;> rw [add64 (by omega) (by omega)] <;> omega
      rw [hmx]
      obtain ⟨k', rfl⟩ : ∃ k', k = k' + 1 := ⟨k - 1, by omega⟩
      have hg' : groups d m = out ++ ((if 2 ≤ n then [⟨i, n⟩] else []) ++ grps m k' (i + max n 1) (d.blk.drop (i + max n 1))) := by
        rw [hg]
        have hcons := drop_cons _ _ hlt2
        rw [hcons] at hrun ⊢
        simp only [grps, hrun]
        rw [← hcons, List.drop_drop]
      refine cond_intro (fun h2 => ⟨⟨rfl, by unfold roomM; omega⟩, ?_⟩) fun h2 => ?_
      · have h2 : 2 ≤ n := by simp at h2; omega
        rw [if_pos h2, ← List.append_assoc] at hg'
        refine Nx.of (i + max n 1, out ++ [⟨i, n⟩], k') ⟨by simp only; omega, by simp only; omega, by simp; omega, hg'⟩ (by simp only; omega) ?_
        exact (StLe.set 5 rfl (Wk.snoc (x := (⟨i, n⟩ : Rg))) rfl rfl).trans (StLe.heap (by simp [hT, upd_upd, Heap.empty]))
      · have h2 : ¬ 2 ≤ n := by simp at h2; omega
        rw [if_neg h2, List.nil_append] at hg'
        exact Nx.mk (i + max n 1, out, k') ⟨by simp only; omega, by simp only; omega, by simp only; omega, hg'⟩ (by simp only; omega)
  · have := geI hge
    rw [List.drop_of_length_le this] at hg
    have : grps m k i [] = [] := by cases k <;> rfl
    rw [this, List.append_nil] at hg
    rw [hg]
    exact Wk.tokL
end Go.Proofs.Ytmlhaikblfjghaa.S1
/- Seat 1: plans of groups; copies. -/
namespace Go.Proofs.Ytmlhaikblfjghaa.S1
open Go Go.Ab Go.Proofs
structure Gp where (frm to : Int) deriving Inhabited, DecidableEq
def Gp.d (x : Gp) : D := .agg [I x.frm, I x.to]
abbrev Str := List UInt8
structure Cg where (time : Int) (val : Str) deriving Inhabited, DecidableEq
def Cg.d (x : Cg) : D := .agg [I x.time, .str x.val]
structure Chk where (frm to : Int) (vals : List Str) (chg : List (List Cg)) (gaps : List Gp) deriving Inhabited, DecidableEq
def Chk.d (x : Chk) : D := .agg [I x.frm, I x.to, L x.vals 1 .str, L x.chg 1 (fun l => L l 2 Cg.d), L x.gaps 2 Gp.d]
instance {x : Gp} : DD x.d := inferInstanceAs (DD (.agg _))
instance {x : Cg} : DD x.d := inferInstanceAs (DD (.agg _))
instance {x : Chk} : DD x.d := inferInstanceAs (DD (.agg _))
instance {b : Bool} {n sz : Nat} {get : Nat → D} [h : ∀ i, DD (get i)] : DD (.list n sz get (.nz b)) := ⟨⟨fun i _ => (h i).p, fun _ _ h => by cases h⟩⟩
/-- A slice of which it is known whether it is nil. -/
def Lz {α : Type} [Inhabited α] (es : List α) (sz : Nat) (enc : α → D) (b : Bool) : D := .list es.length sz (fun i => enc (es.getD i default)) (.nz b)
instance {α : Type} [Inhabited α] {es : List α} {sz : Nat} {enc : α → D} {b : Bool} [h : ∀ x, DD (enc x)] : DD (Lz es sz enc b) := ⟨⟨fun i _ => (h _).p, fun _ _ h => by cases h⟩⟩

theorem zeroLen {α : Type} {es : List α} (h : es.length = 0) : es = [] := List.length_eq_zero_iff.1 h
theorem wkClone {α : Type} [Inhabited α] {es : List α} {sz t : Nat} {enc : α → D} : Wk (.list (0 + es.length) sz (catG 0 (litG []) fun i => enc (es.getD i default)) (.tok t sz)) (L es sz enc) := by
  rw [Nat.zero_add, catG_nil]; exact Wk.tokL
theorem wkJoin {α : Type} [Inhabited α] {a b : List α} {sz t : Nat} {enc : α → D} : Wk (.list ((↑a.length : Int).toNat - 0 + b.length) sz (catG ((↑a.length : Int).toNat - 0) (dropG (fun i => enc (a.getD i default)) 0) fun i => enc (b.getD i default)) (.tok t sz)) (L (a ++ b) sz enc) := by
  rw [Int.toNat_natCast, Nat.sub_zero, dropG_nil]; exact Wk.appsL

theorem F35 : OkF 35 Try.f35 := ⟨by kernel_rfl, by kernel_rfl, by kernel_rfl⟩
def lv35 : List (List Nat × List Nat) := []
noncomputable def nCloSs  : List Nat → Nat → Option Ans := scrAt []
theorem nCloS (es : List Str) (b : Bool) (K : D → Prop) : runS (En Try.f35) (fi Try.f35 K) (nCloSs ) lv35 200 [.code []] ⟨argSlots 0 [Lz es 1 .str b], .empty⟩ =
  (bif b then K (.list 0 0 (fun _ => D.junk) .full) else (0 + es.length) * 16 ≤ roomM ∧ K (.list (0 + es.length) 1 (catG 0 (litG []) fun i => .str (es.getD i default)) (.tok 0 1))) := by kernel_rfl
theorem c35 (es : List Str) (hl : es.length ≤ 1000000) : Pure PP 35 [L es 1 .str] (L es 1 .str) := Pure.nz1 fun b hb => pu (args := [Lz es 1 .str b]) F35 (by kernel_rfl) (of_eq (nCloS es b _) (cond_intro (fun h => by
  rw [zeroLen (hb h)]; exact Wk.nilL) fun _ => ⟨by unfold roomM; omega, wkClone⟩))
theorem F51 : OkF 51 Try.f51 := ⟨by kernel_rfl, by kernel_rfl, by kernel_rfl⟩
def lv51 : List (List Nat × List Nat) := []
noncomputable def nCloCs  : List Nat → Nat → Option Ans := scrAt []
theorem nCloC (es : List Cg) (b : Bool) (K : D → Prop) : runS (En Try.f51) (fi Try.f51 K) (nCloCs ) lv51 200 [.code []] ⟨argSlots 0 [Lz es 2 Cg.d b], .empty⟩ =
  (bif b then K (.list 0 0 (fun _ => D.junk) .full) else (0 + es.length) * 24 ≤ roomM ∧ K (.list (0 + es.length) 2 (catG 0 (litG []) fun i => (es.getD i default).d) (.tok 0 2))) := by kernel_rfl
theorem c51 (es : List Cg) (hl : es.length ≤ 1000000) : Pure PP 51 [L es 2 Cg.d] (L es 2 Cg.d) := Pure.nz1 fun b hb => pu (args := [Lz es 2 Cg.d b]) F51 (by kernel_rfl) (of_eq (nCloC es b _) (cond_intro (fun h => by
  rw [zeroLen (hb h)]; exact Wk.nilL) fun _ => ⟨by unfold roomM; omega, wkClone⟩))
theorem F52 : OkF 52 Try.f52 := ⟨by kernel_rfl, by kernel_rfl, by kernel_rfl⟩
def lv52 : List (List Nat × List Nat) := []
noncomputable def nCloGs  : List Nat → Nat → Option Ans := scrAt []
theorem nCloG (es : List Gp) (b : Bool) (K : D → Heap → Prop) : runS (EnV [] [7] Try.f52) (fh Try.f52 K) (nCloGs ) lv52 200 [.code []] ⟨argSlots 0 [Lz es 2 Gp.d b], .empty⟩ =
  (bif b then K (.list 0 0 (fun _ => D.junk) .full) Heap.empty else ((0 < es.length ∨ 0 = 0) ∧ (0 + es.length) * 16 ≤ roomM) ∧ K (D.vec 0 (0 + es.length) 2) { box := fun _ => none, nl := 0, hw := upd (fun _ => none) 0 (some (0 + es.length)), nt := 0 + 1, vw := upd (fun _ => none) 0 (some (catG 0 (litG []) fun i => (es.getD i default).d)) : Heap }) := by kernel_rfl
theorem retClone {α : Type} [Inhabited α] {es : List α} {sz : Nat} {enc : α → D} : RetLe (.vec 0 (0 + es.length) sz) ⟨fun _ => none, 0, upd (fun _ => none) 0 (some (0 + es.length)), 0 + 1, upd (fun _ => none) 0 (some (catG 0 (litG []) fun i => enc (es.getD i default)))⟩ (.vec 0 es.length sz) (hVec es enc) := by
  rw [Nat.zero_add, catG_nil]; exact RetLe.refl _ _
theorem e52 (es : List Gp) (hl : es.length ≤ 1000000) : Does PP 52 [L es 2 Gp.d] .empty (.vec 0 es.length 2) (hVec es Gp.d) := Does.nz1 fun b hb => du (args := [Lz es 2 Gp.d b]) F52 (by kernel_rfl) (of_eq (nCloG es b _) (cond_intro (fun h => by
  rw [zeroLen (hb h)]; exact RetLe.idle (some (cv [] Gp.d)) 2 (fun _ => .junk)) fun _ => ⟨⟨.inr rfl, by unfold roomM; omega⟩, retClone⟩))

theorem F50 : OkF 50 Try.f50 := ⟨by kernel_rfl, by kernel_rfl, by kernel_rfl⟩
def lv50 : List (List Nat × List Nat) := []
noncomputable def nJoiCs  : List Nat → Nat → Option Ans := scrAt []
theorem nJoiC (a b : List Cg) (K : D → Prop) : runS (En Try.f50) (fi Try.f50 K) (nJoiCs ) lv50 200 [.code []] ⟨argSlots 0 [L a 2 Cg.d, L b 2 Cg.d], .empty⟩ =
  (a.length ≤ lenM → a.length ≤ lenM → ((0 : Int) ≤ 0 ∧ 0 ≤ (↑a.length : Int) ∧ (↑a.length : Int) ≤ (↑a.length : Int) ∧ (↑a.length : Int) = (↑a.length : Int)) ∧ ((↑a.length : Int).toNat - 0 + b.length) * 24 ≤ roomM ∧ K (.list ((↑a.length : Int).toNat - 0 + b.length) 2 (catG ((↑a.length : Int).toNat - 0) (dropG (fun i => (a.getD i default).d) 0) fun i => (b.getD i default).d) (.tok 0 2))) := by kernel_rfl
theorem c50 (a b : List Cg) (ha : a.length ≤ 1000000) (hb : b.length ≤ 1000000) : Pure PP 50 [L a 2 Cg.d, L b 2 Cg.d] (L (a ++ b) 2 Cg.d) :=
  pu F50 (by kernel_rfl) (of_eq (nJoiC a b _) fun _ _ => ⟨⟨by omega, by omega, by omega, rfl⟩, by unfold roomM; omega, wkJoin⟩)
theorem F53 : OkF 53 Try.f53 := ⟨by kernel_rfl, by kernel_rfl, by kernel_rfl⟩
def lv53 : List (List Nat × List Nat) := []
noncomputable def nJoiGs  : List Nat → Nat → Option Ans := scrAt []
theorem nJoiG (a b : List Gp) (K : D → Prop) : runS (En Try.f53) (fi Try.f53 K) (nJoiGs ) lv53 200 [.code []] ⟨argSlots 0 [L a 2 Gp.d, L b 2 Gp.d], .empty⟩ =
  (a.length ≤ lenM → a.length ≤ lenM → ((0 : Int) ≤ 0 ∧ 0 ≤ (↑a.length : Int) ∧ (↑a.length : Int) ≤ (↑a.length : Int) ∧ (↑a.length : Int) = (↑a.length : Int)) ∧ ((↑a.length : Int).toNat - 0 + b.length) * 16 ≤ roomM ∧ K (.list ((↑a.length : Int).toNat - 0 + b.length) 2 (catG ((↑a.length : Int).toNat - 0) (dropG (fun i => (a.getD i default).d) 0) fun i => (b.getD i default).d) (.tok 0 2))) := by kernel_rfl
theorem c53 (a b : List Gp) (ha : a.length ≤ 1000000) (hb : b.length ≤ 1000000) : Pure PP 53 [L a 2 Gp.d, L b 2 Gp.d] (L (a ++ b) 2 Gp.d) :=
  pu F53 (by kernel_rfl) (of_eq (nJoiG a b _) fun _ _ => ⟨⟨by omega, by omega, by omega, rfl⟩, by unfold roomM; omega, wkJoin⟩)
end Go.Proofs.Ytmlhaikblfjghaa.S1
/- Seat 1: the values of a chunk at a time. -/
namespace Go.Proofs.Ytmlhaikblfjghaa.S1
open Go Go.Ab Go.Proofs
def valAt (v : Str) (l : List Cg) (t : Int) : Str := l.foldl (fun v x => bif decide (x.time ≤ t) then x.val else v) v
def valsAt (c : Chk) (t : Int) : List Str := (List.range c.vals.length).map fun i => valAt (c.vals.getD i default) (c.chg.getD i default) t

noncomputable def nCloSvs  : List Nat → Nat → Option Ans := scrAt []
theorem nCloSv (es : List Str) (b : Bool) (K : D → Heap → Prop) : runS (EnV [] [7] Try.f35) (fh Try.f35 K) (nCloSvs ) lv35 200 [.code []] ⟨argSlots 0 [Lz es 1 .str b], .empty⟩ =
  (bif b then K (.list 0 0 (fun _ => D.junk) .full) Heap.empty else ((0 < es.length ∨ 0 = 0) ∧ (0 + es.length) * 16 ≤ roomM) ∧ K (D.vec 0 (0 + es.length) 1) { box := fun _ => none, nl := 0, hw := upd (fun _ => none) 0 (some (0 + es.length)), nt := 0 + 1, vw := upd (fun _ => none) 0 (some (catG 0 (litG []) fun i => .str (es.getD i default))) : Heap }) := by kernel_rfl
theorem e35 (es : List Str) (hl : es.length ≤ 1000000) : Does PP 35 [L es 1 .str] .empty (.vec 0 es.length 1) (hVec es .str) := Does.nz1 fun b hb => du (args := [Lz es 1 .str b]) F35 (by kernel_rfl) (of_eq (nCloSv es b _) (cond_intro (fun h => by
  rw [zeroLen (hb h)]; exact RetLe.idle (some (cv [] .str)) 1 (fun _ => .junk)) fun _ => ⟨⟨.inr rfl, by unfold roomM; omega⟩, retClone⟩))

theorem F36 : OkF 36 Try.f36 := ⟨by kernel_rfl, by kernel_rfl, by kernel_rfl⟩
def lv36 : List (List Nat × List Nat) := [([1, 1, 0, 1, 0], [1, 2, 5, 13, 14]), ([1, 1, 0, 1, 0, 0, 1, 1, 0, 0, 1, 1, 0], [1, 2, 5, 6, 13, 14, 21, 22, 23])]
noncomputable def n36s (c : Chk) : List Nat → Nat → Option Ans := scrAt [([1, 0], 2, Ans.eff (D.vec 0 c.vals.length 1) (hVec c.vals .str))]
theorem n36 (c : Chk) (t : Int) (K : D → Heap → Prop) : runS (En Try.f36) (fh Try.f36 K) (n36s c) lv36 200 [.code []] ⟨argSlots 0 [c.d, I t], .empty⟩ =
  (Does PP 35 [L c.vals 1 .str] Heap.empty (D.vec 0 c.vals.length 1) (hVec c.vals .str) ∧ (c.vals.length ≤ lenM → At (En Try.f36) (fh Try.f36 K) [It.code [1, 1, 0, 1, 0], It.blk 0, It.code [1, 1, 1]] { sl := [(1, I t), (2, .own [I c.frm, I c.to, L c.vals 1 .str, L c.chg 1 fun l => L l 2 Cg.d, L c.gaps 2 Gp.d]), (5, D.vec 0 c.vals.length 1), (13, I (↑c.vals.length : Int)), (14, I 0)], h := { box := fun _ => none, nl := 0, hw := upd (fun _ => none) 0 (some c.vals.length), nt := 1, vw := upd (fun _ => none) 0 (some (cv c.vals .str)) : Heap } : St })) := by kernel_rfl
def S36 (c : Chk) (t : Int) (es : List Str) (i : Int) : St := ⟨[(1, I t), (2, .own [I c.frm, I c.to, L c.vals 1 .str, L c.chg 1 (fun l => L l 2 Cg.d), L c.gaps 2 Gp.d]), (5, .vec 0 es.length 1), (13, I es.length), (14, I i)], hVec es .str⟩
noncomputable def n36as  : List Nat → Nat → Option Ans := scrAt []
theorem n36a (c : Chk) (t : Int) (es : List Str) (i : Int) (J : St → Prop) (K : D → Heap → Prop) : runS (En Try.f36) (fh Try.f36 K) (n36as ) lv36 200 [.code [1, 1, 0, 1, 0, 0], stp [1, 2, 5, 13, 14] J, .blk 0, .code [1, 1, 1]] (S36 c t es i) =
  (bif decide (i < (↑es.length : Int)) then (0 ≤ i ∧ i < (↑c.chg.length : Int)) ∧ ((c.chg.getD i.toNat default).length ≤ lenM → At (En Try.f36) (fh Try.f36 K) [It.code [1, 1, 0, 1, 0, 0, 1, 1, 0, 0, 1, 1, 0], It.blk 2, It.blk 1, It.code [1, 1, 0, 1, 0, 0, 1, 1, 1], stp [1, 2, 5, 13, 14] J, It.blk 0, It.code [1, 1, 1]] { sl := [(1, I t), (2, .own [I c.frm, I c.to, L c.vals 1 .str, L c.chg 1 fun l => L l 2 Cg.d, L c.gaps 2 Gp.d]), (5, D.vec 0 es.length 1), (6, I i), (13, I (↑es.length : Int)), (14, I i), (21, L (c.chg.getD i.toNat default) 2 Cg.d), (22, I (↑(c.chg.getD i.toNat default).length : Int)), (23, I 0)], h := { box := fun _ => none, nl := 0, hw := upd (fun _ => none) 0 (some es.length), nt := 1, vw := upd (fun _ => none) 0 (some (cv es .str)) : Heap } : St }) else K (D.vec 0 es.length 1) { box := fun _ => none, nl := 0, hw := upd (fun _ => none) 0 (some es.length), nt := 1, vw := upd (fun _ => none) 0 (some (cv es .str)) : Heap }) := by kernel_rfl
def T36 (c : Chk) (t : Int) (es : List Str) (i : Int) (l : List Cg) (k : Int) : St := ⟨[(1, I t), (2, .own [I c.frm, I c.to, L c.vals 1 .str, L c.chg 1 (fun l => L l 2 Cg.d), L c.gaps 2 Gp.d]), (5, .vec 0 es.length 1), (6, I i), (13, I es.length), (14, I i), (21, L l 2 Cg.d), (22, I l.length), (23, I k)], hVec es .str⟩
noncomputable def n36bs  : List Nat → Nat → Option Ans := scrAt []
theorem n36b (c : Chk) (t : Int) (es : List Str) (i : Int) (l : List Cg) (k : Int) (J J2 : St → Prop) (K : D → Heap → Prop) : runS (En Try.f36) (fh Try.f36 K) (n36bs ) lv36 200 [.code [1, 1, 0, 1, 0, 0, 1, 1, 0, 0, 1, 1, 0, 0], stp [1, 2, 5, 6, 13, 14, 21, 22, 23] J, .blk 2, .blk 1, .code [1, 1, 0, 1, 0, 0, 1, 1, 1], stp [1, 2, 5, 13, 14] J2, .blk 0, .code [1, 1, 1]] (T36 c t es i l k) =
  (bif decide (k < (↑l.length : Int)) then (0 ≤ k ∧ k < (↑l.length : Int)) ∧ True ∧ bif decide ((l.getD k.toNat default).time ≤ t) then (upd (fun _ => none) 0 (some es.length) 0 = some es.length ∧ 0 ≤ i ∧ i < (↑es.length : Int)) ∧ upd (fun _ => none) 0 (some es.length) 0 = some es.length ∧ J { sl := [(1, I t), (2, .own [I c.frm, I c.to, L c.vals 1 .str, L c.chg 1 fun l => L l 2 Cg.d, L c.gaps 2 Gp.d]), (5, D.vec 0 es.length 1), (6, I i), (13, I (↑es.length : Int)), (14, I i), (21, L l 2 Cg.d), (22, I (↑l.length : Int)), (23, I (addI .i64 k 1))], h := { box := fun _ => none, nl := 0, hw := upd (fun _ => none) 0 (some es.length), nt := 1, vw := upd (upd (fun _ => none) 0 (some (cv es .str))) 0 (some (setG (cv es .str) i.toNat (.str (l.getD k.toNat default).val))) : Heap } : St } else J { sl := [(1, I t), (2, .own [I c.frm, I c.to, L c.vals 1 .str, L c.chg 1 fun l => L l 2 Cg.d, L c.gaps 2 Gp.d]), (5, D.vec 0 es.length 1), (6, I i), (13, I (↑es.length : Int)), (14, I i), (21, L l 2 Cg.d), (22, I (↑l.length : Int)), (23, I (addI .i64 k 1))], h := { box := fun _ => none, nl := 0, hw := upd (fun _ => none) 0 (some es.length), nt := 1, vw := upd (fun _ => none) 0 (some (cv es .str)) : Heap } : St } else J2 { sl := [(1, I t), (2, .own [I c.frm, I c.to, L c.vals 1 .str, L c.chg 1 fun l => L l 2 Cg.d, L c.gaps 2 Gp.d]), (5, D.vec 0 es.length 1), (13, I (↑es.length : Int)), (14, I (addI .i64 i 1))], h := { box := fun _ => none, nl := 0, hw := upd (fun _ => none) 0 (some es.length), nt := 1, vw := upd (fun _ => none) 0 (some (cv es .str)) : Heap } : St }) := by kernel_rfl

theorem F55 : OkF 55 Try.f55 := ⟨by kernel_rfl, by kernel_rfl, by kernel_rfl⟩
def lv55 : List (List Nat × List Nat) := [([1, 1, 0, 1, 0], [1, 2, 7, 8])]
noncomputable def n55s  : List Nat → Nat → Option Ans := scrAt []
theorem n55 (v : Str) (l : List Cg) (t : Int) (K : D → Prop) : runS (En Try.f55) (fi Try.f55 K) (n55s ) lv55 200 [.code []] ⟨argSlots 0 [.str v, L l 2 Cg.d, I t], .empty⟩ =
  (At (En Try.f55) (fi Try.f55 K) [It.code [1, 1, 0, 1, 0], It.blk 0, It.code [1, 1, 1]] { sl := [(1, L l 2 Cg.d), (2, I t), (7, .str v), (8, I 0)], h := Heap.empty : St }) := by kernel_rfl
def S55 (l : List Cg) (t : Int) (v : Str) (i : Int) : St := ⟨[(1, L l 2 Cg.d), (2, I t), (7, .str v), (8, I i)], .empty⟩
noncomputable def n55as  : List Nat → Nat → Option Ans := scrAt []
theorem n55a (l : List Cg) (t : Int) (v : Str) (i : Int) (J : St → Prop) (K : D → Prop) : runS (En Try.f55) (fi Try.f55 K) (n55as ) lv55 200 [.code [1, 1, 0, 1, 0, 0], stp [1, 2, 7, 8] J, .blk 0, .code [1, 1, 1]] (S55 l t v i) =
  (l.length ≤ lenM → bif decide (i < (↑l.length : Int)) then (0 ≤ i ∧ i < (↑l.length : Int)) ∧ bif decide ((l.getD i.toNat default).time ≤ t) then (0 ≤ i ∧ i < (↑l.length : Int)) ∧ J { sl := [(1, L l 2 Cg.d), (2, I t), (7, .str (l.getD i.toNat default).val), (8, I (addI .i64 i 1))], h := Heap.empty : St } else J { sl := [(1, L l 2 Cg.d), (2, I t), (7, .str v), (8, I (addI .i64 i 1))], h := Heap.empty : St } else K (.str v)) := by kernel_rfl
theorem valAt_cons (v : Str) (x : Cg) (l : List Cg) (t : Int) : valAt v (x :: l) t = valAt (bif decide (x.time ≤ t) then x.val else v) l t := rfl
theorem c55 (v : Str) (l : List Cg) (t : Int) : Pure PP 55 [.str v, L l 2 Cg.d, I t] (.str (valAt v l t)) := by
  refine pu F55 (by kernel_rfl) (of_eq (n55 v l t _) ?_)
  refine lp (fn := Try.f55) (fun x : Nat × Str => x.1 ≤ l.length ∧ valAt v l t = valAt x.2 (l.drop x.1) t) (fun x => S55 l t x.2 x.1) (fun x => l.length - x.1) [1, 2, 7, 8] (by kernel_rfl) (fun x hx => of_eq (n55a l t x.2 x.1 _ _) ?_) (0, v) ⟨Nat.zero_le _, rfl⟩
  obtain ⟨i, u⟩ := x
  obtain ⟨hi, he⟩ := hx
  simp only at hi he ⊢
  refine fun hl => cond_intro (fun hlt => ?_) fun hge => ?_
  · have hlt := ltI hlt
    rw [add1 hlt hl, Int.toNat_natCast]
    rw [drop_cons _ _ hlt, valAt_cons] at he
    generalize l.getD i default = x at he ⊢
    refine ⟨⟨by omega, by omega⟩, cond_intro (fun h => ⟨⟨by omega, by omega⟩, Nx.mk (i + 1, x.val) ⟨hlt, ?_⟩ (by simp only; omega)⟩) fun h => Nx.mk (i + 1, u) ⟨hlt, ?_⟩ (by simp only; omega)⟩
    · rw [h] at he; exact he
    · rw [h] at he; exact he
  · have := geI hge
    rw [he, List.drop_of_length_le this]
    exact Wk.refl _

/-- The first i values of f, then those of g. -/
def mixL {α : Type} (f g : Nat → α) (n i : Nat) : List α := (List.range n).map fun j => if j < i then f j else g j
theorem mixL_len {α : Type} (f g : Nat → α) (n i : Nat) : (mixL f g n i).length = n := by simp [mixL]
theorem mixL_get {α : Type} [Inhabited α] (f g : Nat → α) {n i j : Nat} (h : j < n) : (mixL f g n i).getD j default = if j < i then f j else g j := by
  simp [mixL, List.getD, h]
theorem mixL_set {α : Type} (f g : Nat → α) {n i : Nat} (x : α) (h : x = f i) : (mixL f g n i).set i x = mixL f g n (i + 1) := by
  subst h
  refine List.ext_getElem (by simp [mixL]) fun j h1 h2 => ?_
  rw [List.getElem_set]
  simp only [mixL, List.getElem_map, List.getElem_range]
  by_cases hj : i = j
  · subst hj; simp
  · rw [if_neg hj]
    by_cases hji : j < i
    · rw [if_pos hji, if_pos (by omega)]
    · rw [if_neg hji, if_neg (by omega)]
theorem mixL_same {α : Type} (f g : Nat → α) {n i : Nat} (x : α) (h : x = g i) : (mixL f g n i).set i x = mixL f g n i := by
  subst h
  refine List.ext_getElem (by simp) fun j h1 h2 => ?_
  rw [List.getElem_set]
  simp only [mixL, List.getElem_map, List.getElem_range]
  by_cases hj : i = j
  · subst hj; simp
  · rw [if_neg hj]
theorem mixL_zero {α : Type} [Inhabited α] (f : Nat → α) (l : List α) : mixL f (fun j => l.getD j default) l.length 0 = l := by
  refine List.ext_getElem (by simp [mixL]) fun j h1 h2 => ?_
  simp [mixL, List.getD, h2]
theorem mixL_all {α : Type} (f g : Nat → α) (n : Nat) : mixL f g n n = (List.range n).map f := by
  refine List.map_congr_left fun j hj => ?_
  rw [if_pos (List.mem_range.1 hj)]
theorem hVec_set {α : Type} [Inhabited α] {N : Nat} {sl : Slots} {es : List α} {enc : α → D} {k : Nat} {x : α} (hk : k < es.length) :
    StLe N ⟨sl, ⟨fun _ => none, 0, upd (fun _ => none) 0 (some es.length), 1, upd (upd (fun _ => none) 0 (some (cv es enc))) 0 (some (setG (cv es enc) k (enc x)))⟩⟩ ⟨sl, hVec (es.set k x) enc⟩ := by
  rw [upd_upd]
  unfold hVec
  rw [List.length_set]
  exact StLe.vec (upd_same _ _ _) fun i _ => cv_set hk i
theorem retVec {α : Type} [Inhabited α] {es : List α} {sz : Nat} {enc : α → D} : RetLe (.vec 0 es.length sz) (hVec es enc) (L es sz enc) (hFrz (hVec es enc) 0) :=
  (RetLe.frz (d := .vec 0 es.length sz) (t := 0) (n := es.length) (f := cv es enc) rfl rfl (show frzOk 0 es.length (.vec 0 es.length sz) by simp [frzOk])).trans (RetLe.wk Wk.tokL rfl)
theorem c36 (c : Chk) (t : Int) (hc : c.chg.length = c.vals.length) (hm : c.vals.length ≤ 1000000) : Pure PP 36 [c.d, I t] (L (valsAt c t) 1 .str) := by
  refine pr F36 (by kernel_rfl) (of_eq (n36 c t _) ⟨e35 _ hm, fun _ => ?_⟩)
  let f := fun i => valAt (c.vals.getD i default) (c.chg.getD i default) t
  let g := fun i => c.vals.getD i default
  let n := c.vals.length
  have hn : n ≤ lenM := by unfold lenM; omega
  refine at_le (st' := S36 c t (mixL f g n 0) (0 : Nat)) ?_ (by rw [show mixL f g n 0 = c.vals from mixL_zero _ _]; exact StLe.refl _ _)
  refine lp (fn := Try.f36) (fun i : Nat => i ≤ n) (fun i => S36 c t (mixL f g n i) i) (fun i => n - i) [1, 2, 5, 13, 14] (by kernel_rfl) (fun i hi => of_eq (n36a c t _ i _ _) (cond_intro (fun hlt => ?_) fun hge => ?_)) 0 (Nat.zero_le _)
  · have hlt := ltI hlt
    rw [mixL_len] at hlt
    rw [Int.toNat_natCast]
    refine ⟨⟨by omega, by omega⟩, fun hll => ?_⟩
    generalize hld : c.chg.getD i default = l at hll ⊢
    have hfi : f i = valAt (g i) l t := by simp only [f, g, hld]
    refine at_le (st' := T36 c t ((mixL f g n i).set i (g i)) i l (0 : Nat)) ?_ (by rw [mixL_same _ _ _ rfl]; exact StLe.refl _ _)
    refine lp (fn := Try.f36) (fun x : Nat × Str => x.1 ≤ l.length ∧ valAt (g i) l t = valAt x.2 (l.drop x.1) t) (fun x => T36 c t ((mixL f g n i).set i x.2) i l x.1) (fun x => l.length - x.1) [1, 2, 5, 6, 13, 14, 21, 22, 23] (by kernel_rfl)
      (fun x hx => of_eq (n36b c t _ i l x.1 _ _ _) ?_) (0, g i) ⟨Nat.zero_le _, rfl⟩
    obtain ⟨k, u⟩ := x
    obtain ⟨hk, he⟩ := hx
    simp only at hk he ⊢
    have hes : ((mixL f g n i).set i u).length = n := by rw [List.length_set, mixL_len]
    refine cond_intro (fun hlt2 => ?_) fun hge => ?_
    · have hlt2 := ltI hlt2
      rw [add1 hlt2 hll, Int.toNat_natCast, Int.toNat_natCast]
      rw [drop_cons _ _ hlt2, valAt_cons] at he
      generalize l.getD k default = x at he ⊢
      refine ⟨⟨by omega, by omega⟩, trivial, cond_intro (fun h => ⟨⟨upd_same _ _ _, by omega, by rw [hes]; omega⟩, upd_same _ _ _, Nx.of (k + 1, x.val) ⟨hlt2, ?_⟩ (by simp only; omega) ?_⟩) fun h => Nx.mk (k + 1, u) ⟨hlt2, ?_⟩ (by simp only; omega)⟩
      · rw [h] at he; exact he
      · refine (hVec_set (x := x.val) (by rw [hes]; exact hlt)).trans ?_
        unfold T36
        rw [List.set_set, List.length_set, List.length_set]
        exact StLe.refl _ _
      · rw [h] at he; exact he
    · have := geI hge
      rw [List.drop_of_length_le this] at he
      have hu : u = f i := by rw [hfi, he]; rfl
      rw [add1 hlt hn]
      refine Nx.of (i + 1) hlt (by omega) ?_
      unfold S36
      rw [mixL_set _ _ _ hu]
      exact StLe.refl _ _
  · have := geI hge
    rw [mixL_len] at this
    have hin : i = n := by omega
    subst hin
    rw [mixL_all]
    exact ⟨_, retVec⟩

end Go.Proofs.Ytmlhaikblfjghaa.S1
/- Seat 1: equal chunks; small chunks. -/
namespace Go.Proofs.Ytmlhaikblfjghaa.S1
open Go Go.Ab Go.Proofs
theorem F39 : OkF 39 Try.f39 := ⟨by kernel_rfl, by kernel_rfl, by kernel_rfl⟩
def lv39 : List (List Nat × List Nat) := [([1, 1, 0, 1, 0], [0, 1, 5])]
noncomputable def nSaTs  : List Nat → Nat → Option Ans := scrAt []
theorem nSaT (a : List (Str)) (K : D → Prop) : runS (En Try.f39) (fi Try.f39 K) (nSaTs ) lv39 200 [.code []] ⟨argSlots 0 [L a 1 (.str), L a 1 (.str)], .empty⟩ =
  (a.length ≤ lenM → a.length ≤ lenM → bif (↑a.length : Int) != (↑a.length : Int) then K (B false) else At (En Try.f39) (fi Try.f39 K) [It.code [1, 1, 0, 1, 0], It.blk 0, It.code [1, 1, 1]] { sl := [(0, L a 1 .str), (1, L a 1 .str), (5, I 0)], h := Heap.empty : St }) := by kernel_rfl
def SSaT (a : List (Str)) (i : Int) : St := ⟨[(0, L a 1 (.str)), (1, L a 1 (.str)), (5, I i)], .empty⟩
noncomputable def nSaTas  : List Nat → Nat → Option Ans := scrAt []
theorem nSaTa (a : List (Str)) (i : Int) (J : St → Prop) (K : D → Prop) : runS (En Try.f39) (fi Try.f39 K) (nSaTas ) lv39 200 [.code [1, 1, 0, 1, 0, 0], stp [0, 1, 5] J, .blk 0, .code [1, 1, 1]] (SSaT a i) =
  (a.length ≤ lenM → bif decide (i < (↑a.length : Int)) then (0 ≤ i ∧ i < (↑a.length : Int)) ∧ (0 ≤ i ∧ i < (↑a.length : Int)) ∧ bif !a.getD i.toNat default == a.getD i.toNat default then K (B false) else J { sl := [(0, L a 1 .str), (1, L a 1 .str), (5, I (addI .i64 i 1))], h := Heap.empty : St } else K (B true)) := by kernel_rfl
theorem c39 (a : List (Str)) : Pure PP 39 [L a 1 (.str), L a 1 (.str)] (B true) := by
  refine pu F39 (by kernel_rfl) (of_eq (nSaT a _) fun _ _ => cond_intro (fun h => by simp at h) fun h => ?_)
  refine lp (fn := Try.f39) (fun i : Nat => i ≤ a.length) (fun i => SSaT a i) (fun i => a.length - i) [0, 1, 5] (by kernel_rfl) (fun i hi => of_eq (nSaTa a i _ _) fun hl => cond_intro (fun hlt => ?_) fun hge => ?_) 0 (Nat.zero_le _)
  · have hlt := ltI hlt
    rw [add1 hlt hl]
    refine ⟨⟨by omega, by omega⟩, ⟨by omega, by omega⟩, cond_intro (fun h => by simp at h) fun h => Nx.mk (i + 1) (by omega) (by omega)⟩
  · exact Wk.refl _
theorem F56 : OkF 56 Try.f56 := ⟨by kernel_rfl, by kernel_rfl, by kernel_rfl⟩
def lv56 : List (List Nat × List Nat) := [([1, 1, 0, 1, 0], [0, 1, 5])]
noncomputable def nSaCs  : List Nat → Nat → Option Ans := scrAt []
theorem nSaC (a : List (Cg)) (K : D → Prop) : runS (En Try.f56) (fi Try.f56 K) (nSaCs ) lv56 200 [.code []] ⟨argSlots 0 [L a 2 (Cg.d), L a 2 (Cg.d)], .empty⟩ =
  (a.length ≤ lenM → a.length ≤ lenM → bif (↑a.length : Int) != (↑a.length : Int) then K (B false) else At (En Try.f56) (fi Try.f56 K) [It.code [1, 1, 0, 1, 0], It.blk 0, It.code [1, 1, 1]] { sl := [(0, L a 2 Cg.d), (1, L a 2 Cg.d), (5, I 0)], h := Heap.empty : St }) := by kernel_rfl
def SSaC (a : List (Cg)) (i : Int) : St := ⟨[(0, L a 2 (Cg.d)), (1, L a 2 (Cg.d)), (5, I i)], .empty⟩
noncomputable def nSaCas  : List Nat → Nat → Option Ans := scrAt []
theorem nSaCa (a : List (Cg)) (i : Int) (J : St → Prop) (K : D → Prop) : runS (En Try.f56) (fi Try.f56 K) (nSaCas ) lv56 200 [.code [1, 1, 0, 1, 0, 0], stp [0, 1, 5] J, .blk 0, .code [1, 1, 1]] (SSaC a i) =
  (a.length ≤ lenM → bif decide (i < (↑a.length : Int)) then (0 ≤ i ∧ i < (↑a.length : Int)) ∧ (0 ≤ i ∧ i < (↑a.length : Int)) ∧ bif !((a.getD i.toNat default).time == (a.getD i.toNat default).time && (a.getD i.toNat default).val == (a.getD i.toNat default).val) then K (B false) else J { sl := [(0, L a 2 Cg.d), (1, L a 2 Cg.d), (5, I (addI .i64 i 1))], h := Heap.empty : St } else K (B true)) := by kernel_rfl
theorem c56 (a : List (Cg)) : Pure PP 56 [L a 2 (Cg.d), L a 2 (Cg.d)] (B true) := by
  refine pu F56 (by kernel_rfl) (of_eq (nSaC a _) fun _ _ => cond_intro (fun h => by simp at h) fun h => ?_)
  refine lp (fn := Try.f56) (fun i : Nat => i ≤ a.length) (fun i => SSaC a i) (fun i => a.length - i) [0, 1, 5] (by kernel_rfl) (fun i hi => of_eq (nSaCa a i _ _) fun hl => cond_intro (fun hlt => ?_) fun hge => ?_) 0 (Nat.zero_le _)
  · have hlt := ltI hlt
    rw [add1 hlt hl]
    refine ⟨⟨by omega, by omega⟩, ⟨by omega, by omega⟩, cond_intro (fun h => by simp at h) fun h => Nx.mk (i + 1) (by omega) (by omega)⟩
  · exact Wk.refl _
theorem F40 : OkF 40 Try.f40 := ⟨by kernel_rfl, by kernel_rfl, by kernel_rfl⟩
def lv40 : List (List Nat × List Nat) := [([1, 1, 0, 1, 0], [0, 1, 5])]
noncomputable def nSaAs  : List Nat → Nat → Option Ans := scrAt []
theorem nSaA (a : List (List Cg)) (K : D → Prop) : runS (En Try.f40) (fi Try.f40 K) (nSaAs ) lv40 200 [.code []] ⟨argSlots 0 [L a 1 (fun l => L l 2 Cg.d), L a 1 (fun l => L l 2 Cg.d)], .empty⟩ =
  (a.length ≤ lenM → a.length ≤ lenM → bif (↑a.length : Int) != (↑a.length : Int) then K (B false) else At (En Try.f40) (fi Try.f40 K) [It.code [1, 1, 0, 1, 0], It.blk 0, It.code [1, 1, 1]] { sl := [(0, L a 1 fun l => L l 2 Cg.d), (1, L a 1 fun l => L l 2 Cg.d), (5, I 0)], h := Heap.empty : St }) := by kernel_rfl
def SSaA (a : List (List Cg)) (i : Int) : St := ⟨[(0, L a 1 (fun l => L l 2 Cg.d)), (1, L a 1 (fun l => L l 2 Cg.d)), (5, I i)], .empty⟩
noncomputable def nSaAas (a : List (List Cg)) (i : Int) : List Nat → Nat → Option Ans := scrAt [([1, 1, 0, 1, 0, 0, 1, 0, 0, 0], 8, Ans.pure [L (a.getD i.toNat default) 2 Cg.d, L (a.getD i.toNat default) 2 Cg.d] (B true))]
theorem nSaAa (a : List (List Cg)) (i : Int) (J : St → Prop) (K : D → Prop) : runS (En Try.f40) (fi Try.f40 K) (nSaAas a i) lv40 200 [.code [1, 1, 0, 1, 0, 0], stp [0, 1, 5] J, .blk 0, .code [1, 1, 1]] (SSaA a i) =
  (a.length ≤ lenM → bif decide (i < (↑a.length : Int)) then (0 ≤ i ∧ i < (↑a.length : Int)) ∧ (0 ≤ i ∧ i < (↑a.length : Int)) ∧ PureW PP 56 [L (a.getD i.toNat default) 2 Cg.d, L (a.getD i.toNat default) 2 Cg.d] [L (a.getD i.toNat default) 2 Cg.d, L (a.getD i.toNat default) 2 Cg.d] (B true) ∧ J { sl := [(0, L a 1 fun l => L l 2 Cg.d), (1, L a 1 fun l => L l 2 Cg.d), (5, I (addI .i64 i 1))], h := Heap.empty : St } else K (B true)) := by kernel_rfl
theorem c40 (a : List (List Cg)) : Pure PP 40 [L a 1 (fun l => L l 2 Cg.d), L a 1 (fun l => L l 2 Cg.d)] (B true) := by
  refine pu F40 (by kernel_rfl) (of_eq (nSaA a _) fun _ _ => cond_intro (fun h => by simp at h) fun h => ?_)
  refine lp (fn := Try.f40) (fun i : Nat => i ≤ a.length) (fun i => SSaA a i) (fun i => a.length - i) [0, 1, 5] (by kernel_rfl) (fun i hi => of_eq (nSaAa a i _ _) fun hl => cond_intro (fun hlt => ?_) fun hge => ?_) 0 (Nat.zero_le _)
  · have hlt := ltI hlt
    rw [add1 hlt hl]
    refine ⟨⟨by omega, by omega⟩, ⟨by omega, by omega⟩, PureW.mk (c56 _), Nx.mk (i + 1) (by omega) (by omega)⟩
  · exact Wk.refl _
theorem F41 : OkF 41 Try.f41 := ⟨by kernel_rfl, by kernel_rfl, by kernel_rfl⟩
def lv41 : List (List Nat × List Nat) := [([1, 1, 0, 1, 0], [0, 1, 5])]
noncomputable def nSaGs  : List Nat → Nat → Option Ans := scrAt []
theorem nSaG (a : List (Gp)) (K : D → Prop) : runS (En Try.f41) (fi Try.f41 K) (nSaGs ) lv41 200 [.code []] ⟨argSlots 0 [L a 2 (Gp.d), L a 2 (Gp.d)], .empty⟩ =
  (a.length ≤ lenM → a.length ≤ lenM → bif (↑a.length : Int) != (↑a.length : Int) then K (B false) else At (En Try.f41) (fi Try.f41 K) [It.code [1, 1, 0, 1, 0], It.blk 0, It.code [1, 1, 1]] { sl := [(0, L a 2 Gp.d), (1, L a 2 Gp.d), (5, I 0)], h := Heap.empty : St }) := by kernel_rfl
def SSaG (a : List (Gp)) (i : Int) : St := ⟨[(0, L a 2 (Gp.d)), (1, L a 2 (Gp.d)), (5, I i)], .empty⟩
noncomputable def nSaGas  : List Nat → Nat → Option Ans := scrAt []
theorem nSaGa (a : List (Gp)) (i : Int) (J : St → Prop) (K : D → Prop) : runS (En Try.f41) (fi Try.f41 K) (nSaGas ) lv41 200 [.code [1, 1, 0, 1, 0, 0], stp [0, 1, 5] J, .blk 0, .code [1, 1, 1]] (SSaG a i) =
  (a.length ≤ lenM → bif decide (i < (↑a.length : Int)) then (0 ≤ i ∧ i < (↑a.length : Int)) ∧ (0 ≤ i ∧ i < (↑a.length : Int)) ∧ bif !((a.getD i.toNat default).frm == (a.getD i.toNat default).frm && (a.getD i.toNat default).to == (a.getD i.toNat default).to) then K (B false) else J { sl := [(0, L a 2 Gp.d), (1, L a 2 Gp.d), (5, I (addI .i64 i 1))], h := Heap.empty : St } else K (B true)) := by kernel_rfl
theorem c41 (a : List (Gp)) : Pure PP 41 [L a 2 (Gp.d), L a 2 (Gp.d)] (B true) := by
  refine pu F41 (by kernel_rfl) (of_eq (nSaG a _) fun _ _ => cond_intro (fun h => by simp at h) fun h => ?_)
  refine lp (fn := Try.f41) (fun i : Nat => i ≤ a.length) (fun i => SSaG a i) (fun i => a.length - i) [0, 1, 5] (by kernel_rfl) (fun i hi => of_eq (nSaGa a i _ _) fun hl => cond_intro (fun hlt => ?_) fun hge => ?_) 0 (Nat.zero_le _)
  · have hlt := ltI hlt
    rw [add1 hlt hl]
    refine ⟨⟨by omega, by omega⟩, ⟨by omega, by omega⟩, cond_intro (fun h => by simp at h) fun h => Nx.mk (i + 1) (by omega) (by omega)⟩
  · exact Wk.refl _
theorem F23 : OkF 23 Try.f23 := ⟨by kernel_rfl, by kernel_rfl, by kernel_rfl⟩
def lv23 : List (List Nat × List Nat) := [([1, 1, 0, 1, 0], [0, 1, 5])]
noncomputable def nSaRs  : List Nat → Nat → Option Ans := scrAt []
theorem nSaR (a : List (Rg)) (K : D → Prop) : runS (En Try.f23) (fi Try.f23 K) (nSaRs ) lv23 200 [.code []] ⟨argSlots 0 [L a 2 (Rg.d), L a 2 (Rg.d)], .empty⟩ =
  (a.length ≤ lenM → a.length ≤ lenM → bif (↑a.length : Int) != (↑a.length : Int) then K (B false) else At (En Try.f23) (fi Try.f23 K) [It.code [1, 1, 0, 1, 0], It.blk 0, It.code [1, 1, 1]] { sl := [(0, L a 2 Rg.d), (1, L a 2 Rg.d), (5, I 0)], h := Heap.empty : St }) := by kernel_rfl
def SSaR (a : List (Rg)) (i : Int) : St := ⟨[(0, L a 2 (Rg.d)), (1, L a 2 (Rg.d)), (5, I i)], .empty⟩
noncomputable def nSaRas  : List Nat → Nat → Option Ans := scrAt []
theorem nSaRa (a : List (Rg)) (i : Int) (J : St → Prop) (K : D → Prop) : runS (En Try.f23) (fi Try.f23 K) (nSaRas ) lv23 200 [.code [1, 1, 0, 1, 0, 0], stp [0, 1, 5] J, .blk 0, .code [1, 1, 1]] (SSaR a i) =
  (a.length ≤ lenM → bif decide (i < (↑a.length : Int)) then (0 ≤ i ∧ i < (↑a.length : Int)) ∧ (0 ≤ i ∧ i < (↑a.length : Int)) ∧ bif !((a.getD i.toNat default).frm == (a.getD i.toNat default).frm && (a.getD i.toNat default).cnt == (a.getD i.toNat default).cnt) then K (B false) else J { sl := [(0, L a 2 Rg.d), (1, L a 2 Rg.d), (5, I (addI .i64 i 1))], h := Heap.empty : St } else K (B true)) := by kernel_rfl
theorem c23 (a : List (Rg)) : Pure PP 23 [L a 2 (Rg.d), L a 2 (Rg.d)] (B true) := by
  refine pu F23 (by kernel_rfl) (of_eq (nSaR a _) fun _ _ => cond_intro (fun h => by simp at h) fun h => ?_)
  refine lp (fn := Try.f23) (fun i : Nat => i ≤ a.length) (fun i => SSaR a i) (fun i => a.length - i) [0, 1, 5] (by kernel_rfl) (fun i hi => of_eq (nSaRa a i _ _) fun hl => cond_intro (fun hlt => ?_) fun hge => ?_) 0 (Nat.zero_le _)
  · have hlt := ltI hlt
    rw [add1 hlt hl]
    refine ⟨⟨by omega, by omega⟩, ⟨by omega, by omega⟩, cond_intro (fun h => by simp at h) fun h => Nx.mk (i + 1) (by omega) (by omega)⟩
  · exact Wk.refl _

theorem F22 : OkF 22 Try.f22 := ⟨by kernel_rfl, by kernel_rfl, by kernel_rfl⟩
def lv22 : List (List Nat × List Nat) := []
noncomputable def n22s (a : Chk) : List Nat → Nat → Option Ans := scrAt [([1, 0], 17, Ans.pure [L a.vals 1 .str, L a.vals 1 .str] (B true)), ([1, 0], 24, Ans.pure [L a.chg 1 fun l => L l 2 Cg.d, L a.chg 1 fun l => L l 2 Cg.d] (B true)), ([1, 0], 31, Ans.pure [L a.gaps 2 Gp.d, L a.gaps 2 Gp.d] (B true))]
theorem n22 (a : Chk) (K : D → Prop) : runS (En Try.f22) (fi Try.f22 K) (n22s a) lv22 200 [.code []] ⟨argSlots 0 [a.d, a.d], .empty⟩ =
  (((bif a.frm == a.frm then a.to == a.to else false) = true → PureW PP 39 [L a.vals 1 .str, L a.vals 1 .str] [L a.vals 1 .str, L a.vals 1 .str] (B true)) ∧ ((bif bif a.frm == a.frm then a.to == a.to else false then true else false) = true → PureW PP 40 [L a.chg 1 fun l => L l 2 Cg.d, L a.chg 1 fun l => L l 2 Cg.d] [L a.chg 1 fun l => L l 2 Cg.d, L a.chg 1 fun l => L l 2 Cg.d] (B true)) ∧ ((bif bif bif a.frm == a.frm then a.to == a.to else false then true else false then true else false) = true → PureW PP 41 [L a.gaps 2 Gp.d, L a.gaps 2 Gp.d] [L a.gaps 2 Gp.d, L a.gaps 2 Gp.d] (B true)) ∧ K (B (bif bif bif bif a.frm == a.frm then a.to == a.to else false then true else false then true else false then true else false))) := by kernel_rfl
theorem c22 (a : Chk) : Pure PP 22 [a.d, a.d] (B true) := pu F22 (by kernel_rfl) (of_eq (n22 a _) ⟨fun _ => PureW.mk (c39 _), fun _ => PureW.mk (c40 _), fun _ => PureW.mk (c41 _), Wk.of_eq (by simp)⟩)
theorem F54 : OkF 54 Try.f54 := ⟨by kernel_rfl, by kernel_rfl, by kernel_rfl⟩
def lv54 : List (List Nat × List Nat) := [([1, 0, 1, 0], [0, 1, 5])]
noncomputable def n54s  : List Nat → Nat → Option Ans := scrAt []
theorem n54 (l : List Cg) (m : Int) (K : D → Prop) : runS (En Try.f54) (fi Try.f54 K) (n54s ) lv54 200 [.code []] ⟨argSlots 0 [L l 2 Cg.d, I m], .empty⟩ =
  (At (En Try.f54) (fi Try.f54 K) [It.code [1, 0, 1, 0], It.blk 0, It.code [1, 1]] { sl := [(0, L l 2 Cg.d), (1, I m), (5, I 0)], h := Heap.empty : St }) := by kernel_rfl
def S54 (l : List Cg) (m : Int) (i : Int) : St := ⟨[(0, L l 2 Cg.d), (1, I m), (5, I i)], .empty⟩
noncomputable def n54as  : List Nat → Nat → Option Ans := scrAt []
theorem n54a (l : List Cg) (m : Int) (i : Int) (J : St → Prop) (K : D → Prop) : runS (En Try.f54) (fi Try.f54 K) (n54as ) lv54 200 [.code [1, 0, 1, 0, 0], stp [0, 1, 5] J, .blk 0, .code [1, 1]] (S54 l m i) =
  (l.length ≤ lenM → bif decide (i < (↑l.length : Int)) then (0 ≤ i ∧ i < (↑l.length : Int)) ∧ (List.length (l.getD i.toNat default).val ≤ strM → bif decide ((↑(List.length (l.getD i.toNat default).val) : Int) > 150) then K (B false) else J { sl := [(0, L l 2 Cg.d), (1, I m), (5, I (addI .i64 i 1))], h := Heap.empty : St }) else l.length ≤ lenM → K (B (decide ((↑l.length : Int) ≤ m)))) := by kernel_rfl
def few1 (l : List Cg) (m : Int) : Bool := (l.all fun x => decide (x.val.length ≤ 150)) && decide ((l.length : Int) ≤ m)
theorem c54 (l : List Cg) (m : Int) : Pure PP 54 [L l 2 Cg.d, I m] (B (few1 l m)) := by
  refine pu F54 (by kernel_rfl) (of_eq (n54 l m _) ?_)
  refine lp (fn := Try.f54) (fun i : Nat => i ≤ l.length ∧ few1 l m = ((l.drop i).all (fun x => decide (x.val.length ≤ 150)) && decide ((l.length : Int) ≤ m))) (fun i => S54 l m i) (fun i => l.length - i) [0, 1, 5] (by kernel_rfl) (fun i hi => of_eq (n54a l m i _ _) fun hl => cond_intro (fun hlt => ?_) fun hge _ => ?_) 0 ⟨Nat.zero_le _, rfl⟩
  · have hlt := ltI hlt
    obtain ⟨hi, he⟩ := hi
    rw [add1 hlt hl, Int.toNat_natCast]
    rw [drop_cons _ _ hlt, List.all_cons] at he
    generalize l.getD i default = x at he ⊢
    refine ⟨⟨by omega, by omega⟩, fun _ => cond_intro (fun h => ?_) fun h => Nx.mk (i + 1) ⟨by omega, ?_⟩ (by omega)⟩
    · have : decide (x.val.length ≤ 150) = false := by simp at h; simp; omega
      rw [he, this]; exact Wk.refl _
    · have : decide (x.val.length ≤ 150) = true := by simp at h; simp; omega
      rw [he, this]; rfl
  · have := geI hge
    rw [hi.2, List.drop_of_length_le this]
    exact Wk.refl _
theorem F33 : OkF 33 Try.f33 := ⟨by kernel_rfl, by kernel_rfl, by kernel_rfl⟩
def lv33 : List (List Nat × List Nat) := [([1, 0, 1, 0], [0, 3, 5]), ([1, 1, 0, 1, 0], [0, 3, 6])]
structure Sg where (kind wid : Int) (chg : List Cg) deriving Inhabited, DecidableEq
structure Sto where (kind wid : Int) deriving Inhabited, DecidableEq
def Sto.d (x : Sto) : D := .agg [I x.kind, I x.wid]
instance {x : Sto} : DD x.d := inferInstanceAs (DD (.agg _))
noncomputable def n33s  : List Nat → Nat → Option Ans := scrAt []
theorem n33 (q : List Sto) (c : Chk) (K : D → Prop) : runS (En Try.f33) (fi Try.f33 K) (n33s ) lv33 200 [.code []] ⟨argSlots 0 [L q 2 Sto.d, c.d], .empty⟩ =
  (At (En Try.f33) (fi Try.f33 K) [It.code [1, 0, 1, 0], It.blk 0, It.code [1, 1]] { sl := [(0, L q 2 Sto.d), (3, .own [I c.frm, I c.to, L c.vals 1 .str, L c.chg 1 fun l => L l 2 Cg.d, L c.gaps 2 Gp.d]), (5, I 0)], h := Heap.empty : St }) := by kernel_rfl

def S33 (q : List Sto) (c : Chk) (i : Int) : St := ⟨[(0, L q 2 Sto.d), (3, .own [I c.frm, I c.to, L c.vals 1 .str, L c.chg 1 (fun l => L l 2 Cg.d), L c.gaps 2 Gp.d]), (5, I i)], .empty⟩
def T33 (q : List Sto) (c : Chk) (i : Int) : St := ⟨[(0, L q 2 Sto.d), (3, .own [I c.frm, I c.to, L c.vals 1 .str, L c.chg 1 (fun l => L l 2 Cg.d), L c.gaps 2 Gp.d]), (6, I i)], .empty⟩
noncomputable def n33as  : List Nat → Nat → Option Ans := scrAt []
theorem n33a (q : List Sto) (c : Chk) (i : Int) (J : St → Prop) (K : D → Prop) : runS (En Try.f33) (fi Try.f33 K) (n33as ) lv33 200 [.code [1, 0, 1, 0, 0], stp [0, 3, 5] J, .blk 0, .code [1, 1]] (S33 q c i) =
  (c.vals.length ≤ lenM → bif decide (i < (↑c.vals.length : Int)) then (0 ≤ i ∧ i < (↑c.vals.length : Int)) ∧ (List.length (c.vals.getD i.toNat default) ≤ strM → bif decide ((↑(List.length (c.vals.getD i.toNat default)) : Int) > 150) then K (B false) else J { sl := [(0, L q 2 Sto.d), (3, .own [I c.frm, I c.to, L c.vals 1 .str, L c.chg 1 fun l => L l 2 Cg.d, L c.gaps 2 Gp.d]), (5, I (addI .i64 i 1))], h := Heap.empty : St }) else At (En Try.f33) (fi Try.f33 K) [It.code [1, 1, 0, 1, 0], It.blk 2, It.code [1, 1, 1]] { sl := [(0, L q 2 Sto.d), (3, .own [I c.frm, I c.to, L c.vals 1 .str, L c.chg 1 fun l => L l 2 Cg.d, L c.gaps 2 Gp.d]), (6, I 0)], h := Heap.empty : St }) := by kernel_rfl
noncomputable def n33bs (c : Chk) (i : Int) : List Nat → Nat → Option Ans := scrAt [([1, 1, 0, 1, 0, 0, 1, 0, 0, 0], 5, Ans.pure [L (c.chg.getD i.toNat default) 2 Cg.d, I 30] (B (few1 (c.chg.getD i.toNat default) 30)))]
theorem n33b (q : List Sto) (c : Chk) (i : Int) (J : St → Prop) (K : D → Prop) : runS (En Try.f33) (fi Try.f33 K) (n33bs c i) lv33 200 [.code [1, 1, 0, 1, 0, 0], stp [0, 3, 6] J, .blk 2, .code [1, 1, 1]] (T33 q c i) =
  (c.chg.length ≤ lenM → bif decide (i < (↑c.chg.length : Int)) then (0 ≤ i ∧ i < (↑c.chg.length : Int)) ∧ PureW PP 54 [L (c.chg.getD i.toNat default) 2 Cg.d, I 30] [L (c.chg.getD i.toNat default) 2 Cg.d, I 30] (B (few1 (c.chg.getD i.toNat default) 30)) ∧ bif !few1 (c.chg.getD i.toNat default) 30 then K (B false) else J { sl := [(0, L q 2 Sto.d), (3, .own [I c.frm, I c.to, L c.vals 1 .str, L c.chg 1 fun l => L l 2 Cg.d, L c.gaps 2 Gp.d]), (6, I (addI .i64 i 1))], h := Heap.empty : St } else q.length ≤ lenM → (decide ((↑q.length : Int) ≤ 8) = true → c.vals.length ≤ lenM) → ((bif decide ((↑q.length : Int) ≤ 8) then decide ((↑c.vals.length : Int) ≤ 10) else false) = true → c.chg.length ≤ lenM) → ((bif bif decide ((↑q.length : Int) ≤ 8) then decide ((↑c.vals.length : Int) ≤ 10) else false then decide ((↑c.chg.length : Int) ≤ 10) else false) = true → c.gaps.length ≤ lenM) → K (B (bif bif bif decide ((↑q.length : Int) ≤ 8) then decide ((↑c.vals.length : Int) ≤ 10) else false then decide ((↑c.chg.length : Int) ≤ 10) else false then decide ((↑c.gaps.length : Int) ≤ 20) else false))) := by kernel_rfl
def fewB (q : List Sto) (c : Chk) : Bool := (c.vals.all fun x => decide (x.length ≤ 150)) && ((c.chg.all fun l => few1 l 30) && (bif bif bif decide ((q.length : Int) ≤ 8) then decide ((c.vals.length : Int) ≤ 10) else false then decide ((c.chg.length : Int) ≤ 10) else false then decide ((c.gaps.length : Int) ≤ 20) else false))
theorem F19 : OkF 19 Try.f19 := ⟨by kernel_rfl, by kernel_rfl, by kernel_rfl⟩
def lv19 : List (List Nat × List Nat) := []
theorem c33 (q : List Sto) (c : Chk) : Pure PP 33 [L q 2 Sto.d, c.d] (B (fewB q c)) := by
  refine pu F33 (by kernel_rfl) (of_eq (n33 q c _) ?_)
  have h0 : fewB q c = ((c.vals.all fun x => decide (x.length ≤ 150)) && ((c.chg.all fun l => few1 l 30) && (bif bif bif decide ((q.length : Int) ≤ 8) then decide ((c.vals.length : Int) ≤ 10) else false then decide ((c.chg.length : Int) ≤ 10) else false then decide ((c.gaps.length : Int) ≤ 20) else false))) := rfl
  rw [h0]
  generalize hT : (bif bif bif decide ((q.length : Int) ≤ 8) then decide ((c.vals.length : Int) ≤ 10) else false then decide ((c.chg.length : Int) ≤ 10) else false then decide ((c.gaps.length : Int) ≤ 20) else false) = T
  refine lp (fn := Try.f33) (fun i : Nat => i ≤ c.vals.length ∧ (c.vals.all fun x => decide (x.length ≤ 150)) = ((c.vals.drop i).all fun x => decide (x.length ≤ 150))) (fun i => S33 q c i) (fun i => c.vals.length - i) [0, 3, 5] (by kernel_rfl) (fun i hi => of_eq (n33a q c i _ _) fun hl => cond_intro (fun hlt => ?_) fun hge => ?_) 0 ⟨Nat.zero_le _, rfl⟩
  · have hlt := ltI hlt
    obtain ⟨hi, he⟩ := hi
    rw [add1 hlt hl, Int.toNat_natCast]
    rw [drop_cons _ _ hlt, List.all_cons] at he
    generalize c.vals.getD i default = x at he ⊢
    refine ⟨⟨by omega, by omega⟩, fun _ => cond_intro (fun h => ?_) fun h => Nx.mk (i + 1) ⟨by omega, ?_⟩ (by omega)⟩
    · have : decide (x.length ≤ 150) = false := by simp at h; simp; omega
      rw [he, this]; exact Wk.refl _
    · have : decide (x.length ≤ 150) = true := by simp at h; simp; omega
      rw [he, this]; rfl
  · have := geI hge
    rw [hi.2, List.drop_of_length_le this]
    simp only [List.all_nil, Bool.true_and]
    refine lp (fn := Try.f33) (fun i : Nat => i ≤ c.chg.length ∧ (c.chg.all fun l => few1 l 30) = ((c.chg.drop i).all fun l => few1 l 30)) (fun i => T33 q c i) (fun i => c.chg.length - i) [0, 3, 6] (by kernel_rfl) (fun i hi => of_eq (n33b q c i _ _) fun hl => cond_intro (fun hlt => ?_) fun hge _ _ _ _ => ?_) 0 ⟨Nat.zero_le _, rfl⟩
    · have hlt := ltI hlt
      obtain ⟨hi, he⟩ := hi
      rw [add1 hlt hl, Int.toNat_natCast]
      rw [drop_cons _ _ hlt, List.all_cons] at he
      generalize c.chg.getD i default = x at he ⊢
      refine ⟨⟨by omega, by omega⟩, PureW.mk (c54 _ _), cond_intro (fun h => ?_) fun h => Nx.mk (i + 1) ⟨by omega, ?_⟩ (by omega)⟩
      · have : few1 x 30 = false := by simpa using h
        rw [he, this]; exact Wk.refl _
      · have : few1 x 30 = true := by simpa using h
        rw [he, this]; rfl
    · have := geI hge
      rw [hi.2, List.drop_of_length_le this, ← hT]
      exact Wk.refl _
noncomputable def n19s (c : Chk) : List Nat → Nat → Option Ans := scrAt [([1, 0], 1, Ans.pure [L [] 2 Sto.d, c.d] (B (fewB [] c)))]
theorem n19 (c : Chk) (K : D → Prop) : runS (En Try.f19) (fi Try.f19 K) (n19s c) lv19 200 [.code []] ⟨argSlots 0 [c.d], .empty⟩ =
  (PureW PP 33 [.list 0 0 (fun _ => D.junk) .full, .agg [I c.frm, I c.to, L c.vals 1 .str, L c.chg 1 fun l => L l 2 Cg.d, L c.gaps 2 Gp.d]] [L [] 2 Sto.d, c.d] (B (fewB [] c)) ∧ K (B (fewB [] c))) := by kernel_rfl
theorem c19 (c : Chk) : Pure PP 19 [c.d] (B (fewB [] c)) := by
  refine pu F19 (by kernel_rfl) (of_eq (n19 c _) ⟨?_, Wk.refl _⟩)
  exact pw (Wks.cons Wk.nilL (Wks.refl _)) (c33 [] c)
end Go.Proofs.Ytmlhaikblfjghaa.S1
/- Seat 1: the parts of a chunk. -/
namespace Go.Proofs.Ytmlhaikblfjghaa.S1
open Go Go.Ab Go.Proofs
instance {ds : List D} [h : DS ds] : DD (.ep ds) := ⟨h.p⟩
/-- The changes behind f, up to t. -/
def inB (f t : Int) (x : Cg) : Bool := bif decide (x.time > f) then decide (x.time ≤ t) else false
def cut (f t : Int) (l : List Cg) : List Cg := l.filter (inB f t)
theorem cut_snoc (f t : Int) (l : List Cg) (x : Cg) : cut f t (l ++ [x]) = cut f t l ++ if inB f t x then [x] else [] := by
  simp only [cut, List.filter_append, List.filter_cons, List.filter_nil]
theorem cut_len (f t : Int) (l : List Cg) : (cut f t l).length ≤ l.length := List.length_filter_le _ _
abbrev z5 : List D := [I 0, I 0, .list 0 0 (fun _ => .junk) .full, .list 0 0 (fun _ => .junk) .full, .list 0 0 (fun _ => .junk) .full]
theorem F34 : OkF 34 Try.f34 := ⟨by kernel_rfl, by kernel_rfl, by kernel_rfl⟩
def lv34 : List (List Nat × List Nat) := [([1, 1, 0, 1, 0], [0, 1, 7, 8, 19, 20, 21]), ([1, 1, 0, 1, 0, 0, 1, 1, 0, 0, 1, 1, 0, 1, 0], [0, 1, 7, 8, 11, 19, 20, 21, 25, 26, 27])]
noncomputable def n34s  : List Nat → Nat → Option Ans := scrAt []
theorem n34 (c : Chk) (f t : Int) (vs : List Str) (K : D → Prop) : runS (En Try.f34) (fi Try.f34 K) (n34s ) lv34 200 [.code []] ⟨argSlots 0 [I f, I t, L vs 1 .str, .ep [I c.frm, I c.to, L c.vals 1 .str, L c.chg 1 (fun l => L l 2 Cg.d), L c.gaps 2 Gp.d]], .empty⟩ =
  (True ∧ (c.chg.length ≤ lenM → At (En Try.f34) (fi Try.f34 K) [It.code [1, 1, 0, 1, 0], It.blk 0, It.code [1, 1, 1]] { sl := [(0, I f), (1, I t), (7, .own [I 0, I 0, .list 0 0 (fun _ => D.junk) .full, .list 0 0 (fun _ => D.junk) .full, .list 0 0 (fun _ => D.junk) .full]), (8, .own [I f, I t, L vs 1 .str, .list 0 0 (fun _ => D.junk) .full, .list 0 0 (fun _ => D.junk) .full]), (19, L c.chg 1 fun x => L x 2 Cg.d), (20, I (↑c.chg.length : Int)), (21, I 0)], h := Heap.empty : St })) := by kernel_rfl
def S34 (f t : Int) (vs : List Str) (q : List (List Cg)) (out : List (List Cg)) (i : Int) (N : Nat) : St := ⟨[(0, I f), (1, I t), (7, .own z5), (8, .own [I f, I t, L vs 1 .str, LT out 1 (fun l => L l 2 Cg.d) 0, .list 0 0 (fun _ => .junk) .full]), (19, L q 1 (fun l => L l 2 Cg.d)), (20, I q.length), (21, I i)], hN out.length N⟩
noncomputable def n34as  : List Nat → Nat → Option Ans := scrAt []
theorem n34a (f t : Int) (vs : List Str) (q : List (List Cg)) (out : List (List Cg)) (i : Int) (N : Nat) (J : St → Prop) (K : D → Prop) : runS (En Try.f34) (fi Try.f34 K) (n34as ) lv34 200 [.code [1, 1, 0, 1, 0, 0], stp [0, 1, 7, 8, 19, 20, 21] J, .blk 0, .code [1, 1, 1]] (S34 f t vs q out i N) =
  (bif decide (i < (↑q.length : Int)) then (0 ≤ i ∧ i < (↑q.length : Int)) ∧ ((q.getD i.toNat default).length ≤ lenM → At (En Try.f34) (fi Try.f34 K) [It.code [1, 1, 0, 1, 0, 0, 1, 1, 0, 0, 1, 1, 0, 1, 0], It.blk 2, It.code [1, 1, 0, 1, 0, 0, 1, 1, 0, 0, 1, 1, 1], It.blk 1, It.code [1, 1, 0, 1, 0, 0, 1, 1, 1], stp [0, 1, 7, 8, 19, 20, 21] J, It.blk 0, It.code [1, 1, 1]] { sl := [(0, I f), (1, I t), (7, .own [I 0, I 0, .list 0 0 (fun _ => D.junk) .full, .list 0 0 (fun _ => D.junk) .full, .list 0 0 (fun _ => D.junk) .full]), (8, .own [I f, I t, L vs 1 .str, .list out.length 1 (fun i => L (out.getD i default) 2 Cg.d) (.tok 0 1), .list 0 0 (fun _ => D.junk) .full]), (11, .list 0 0 (fun _ => D.junk) .full), (19, L q 1 fun l => L l 2 Cg.d), (20, I (↑q.length : Int)), (21, I i), (25, L (q.getD i.toNat default) 2 Cg.d), (26, I (↑(q.getD i.toNat default).length : Int)), (27, I 0)], h := { box := fun _ => none, nl := 0, hw := upd (fun _ => none) 0 (some out.length), nt := N, vw := fun _ => none : Heap } : St }) else True ∧ K (.agg [I f, I t, L vs 1 .str, .list out.length 1 (fun i => L (out.getD i default) 2 Cg.d) (.tok 0 1), .list 0 0 (fun _ => D.junk) .full])) := by kernel_rfl
def T34 (f t : Int) (vs : List Str) (q : List (List Cg)) (out : List (List Cg)) (i : Int) (N : Nat) (l o : List Cg) (k : Int) : St := ⟨[(0, I f), (1, I t), (7, .own z5), (8, .own [I f, I t, L vs 1 .str, LT out 1 (fun l => L l 2 Cg.d) 0, .list 0 0 (fun _ => .junk) .full]), (11, LT o 2 Cg.d N), (19, L q 1 (fun l => L l 2 Cg.d)), (20, I q.length), (21, I i), (25, L l 2 Cg.d), (26, I l.length), (27, I k)], hN2 out.length N o.length⟩
noncomputable def n34bs  : List Nat → Nat → Option Ans := scrAt []
theorem n34b (f t : Int) (vs : List Str) (q : List (List Cg)) (out : List (List Cg)) (i : Int) (N : Nat) (l o : List Cg) (k : Int) (J J2 : St → Prop) (K : D → Prop) : runS (En Try.f34) (fi Try.f34 K) (n34bs ) lv34 200 [.code [1, 1, 0, 1, 0, 0, 1, 1, 0, 0, 1, 1, 0, 1, 0, 0], stp [0, 1, 7, 8, 11, 19, 20, 21, 25, 26, 27] J, .blk 2, .code [1, 1, 0, 1, 0, 0, 1, 1, 0, 0, 1, 1, 1], .blk 1, .code [1, 1, 0, 1, 0, 0, 1, 1, 1], stp [0, 1, 7, 8, 19, 20, 21] J2, .blk 0, .code [1, 1, 1]] (T34 f t vs q out i N l o k) =
  (bif decide (k < (↑l.length : Int)) then
  (0 ≤ k ∧ k < (↑l.length : Int)) ∧
    True ∧
      bif bif decide ((l.getD k.toNat default).time > f) then decide ((l.getD k.toNat default).time ≤ t) else false then (upd (upd (fun _ => none) 0 (some out.length)) N (some o.length) N = some o.length ∧ (o.length + 1) * 24 ≤ roomM) ∧ J { sl := [(0, I f), (1, I t), (7, .own [I 0, I 0, .list 0 0 (fun _ => D.junk) .full, .list 0 0 (fun _ => D.junk) .full, .list 0 0 (fun _ => D.junk) .full]), (8, .own [I f, I t, L vs 1 .str, .list out.length 1 (fun i => L (out.getD i default) 2 Cg.d) (.tok 0 1), .list 0 0 (fun _ => D.junk) .full]), (11, .list (o.length + 1) 2 (catG o.length (fun i => (o.getD i default).d) (litG [.agg [I (l.getD k.toNat default).time, .str (l.getD k.toNat default).val]])) (.tok N 2)), (19, L q 1 fun l => L l 2 Cg.d), (20, I (↑q.length : Int)), (21, I i), (25, L l 2 Cg.d), (26, I (↑l.length : Int)), (27, I (addI .i64 k 1))], h := { box := fun _ => none, nl := 0, hw := upd (upd (upd (fun _ => none) 0 (some out.length)) N (some o.length)) N (some (o.length + 1)), nt := N + 1, vw := fun _ => none : Heap } : St }
      else J { sl := [(0, I f), (1, I t), (7, .own [I 0, I 0, .list 0 0 (fun _ => D.junk) .full, .list 0 0 (fun _ => D.junk) .full, .list 0 0 (fun _ => D.junk) .full]), (8, .own [I f, I t, L vs 1 .str, .list out.length 1 (fun i => L (out.getD i default) 2 Cg.d) (.tok 0 1), .list 0 0 (fun _ => D.junk) .full]), (11, .list o.length 2 (fun i => (o.getD i default).d) (.tok N 2)), (19, L q 1 fun l => L l 2 Cg.d), (20, I (↑q.length : Int)), (21, I i), (25, L l 2 Cg.d), (26, I (↑l.length : Int)), (27, I (addI .i64 k 1))], h := { box := fun _ => none, nl := 0, hw := upd (upd (fun _ => none) 0 (some out.length)) N (some o.length), nt := N + 1, vw := fun _ => none : Heap } : St }
 else (upd (upd (fun _ => none) 0 (some out.length)) N (some o.length) 0 = some out.length ∧ (out.length + 1) * 24 ≤ roomM) ∧ True ∧ J2 { sl := [(0, I f), (1, I t), (7, .own [I 0, I 0, .list 0 0 (fun _ => D.junk) .full, .list 0 0 (fun _ => D.junk) .full, .list 0 0 (fun _ => D.junk) .full]), (8, .own [I f, I t, L vs 1 .str, .list (out.length + 1) 1 (catG out.length (fun i => L (out.getD i default) 2 Cg.d) (litG [.list o.length 2 (fun i => (o.getD i default).d) (.tok N 2)])) (.tok 0 1), .list 0 0 (fun _ => D.junk) .full]), (19, L q 1 fun l => L l 2 Cg.d), (20, I (↑q.length : Int)), (21, I (addI .i64 i 1))], h := { box := fun _ => none, nl := 0, hw := upd (upd (upd (fun _ => none) 0 (some out.length)) N (some o.length)) 0 (some (out.length + 1)), nt := N + 1, vw := fun _ => none : Heap } : St }) := by kernel_rfl
theorem ones_L {α : Type} [Inhabited α] {l : List α} {sz : Nat} {enc : α → D} : ones (L l sz enc) = true := rfl
theorem map_take {α β : Type} [Inhabited α] (g : α → β) (l : List α) (i : Nat) (h : i < l.length) : (l.take (i + 1)).map g = (l.take i).map g ++ [g (l.getD i default)] := by
  rw [take_snoc _ _ h, List.map_append]; rfl
theorem keys_nodup (l : Slots) (h : decide ((l.map (·.1)).Nodup) = true) : (l.map (·.1)).Nodup := of_decide_eq_true h
/-- What parts are, whichever code makes them. -/
def partC (c : Chk) (f t : Int) (vs : List Str) : Chk := ⟨f, t, vs, c.chg.map (cut f t), []⟩
def partD (c : Chk) (f t : Int) (vs : List Str) : D := .agg [I f, I t, L vs 1 .str, L (c.chg.map (cut f t)) 1 (fun l => L l 2 Cg.d), .list 0 0 (fun _ => .junk) .full]
instance {sz : Nat} {get : Nat → D} : DD (.list 0 sz get .full) := ⟨⟨fun i h => by omega, fun _ _ h => by cases h⟩⟩
instance {c : Chk} {f t : Int} {vs : List Str} : DD (partD c f t vs) := inferInstanceAs (DD (.agg _))
def SmallC (c : Chk) : Prop := c.chg.length ≤ 100000 ∧ c.vals.length ≤ 100000 ∧ c.gaps.length ≤ 100000 ∧ ∀ l ∈ c.chg, l.length ≤ 100000
theorem c34 (c : Chk) (f t : Int) (vs : List Str) (hs : SmallC c) : Pure PP 34 [I f, I t, L vs 1 .str, .ep [I c.frm, I c.to, L c.vals 1 .str, L c.chg 1 (fun l => L l 2 Cg.d), L c.gaps 2 Gp.d]] (partD c f t vs) := by
  obtain ⟨hs1, _, _, hs2⟩ := hs
  refine pu (args := [I f, I t, L vs 1 .str, .ep [I c.frm, I c.to, L c.vals 1 .str, L c.chg 1 (fun l => L l 2 Cg.d), L c.gaps 2 Gp.d]]) F34 (by kernel_rfl) (of_eq (n34 c f t vs _) ⟨trivial, fun hq => ?_⟩)
  refine at_le (st' := S34 f t vs c.chg ((c.chg.take 0).map (cut f t)) (0 : Nat) 1) ?_ ((StLe.idleOwn _ none 8 3 1 (fun i => L (([] : List (List Cg)).getD i default) 2 Cg.d) rfl rfl).cast (by kernel_rfl))
  have hd : partD c f t vs = .agg [I f, I t, L vs 1 .str, L ((c.chg.take c.chg.length).map (cut f t)) 1 (fun l => L l 2 Cg.d), .list 0 0 (fun _ => .junk) .full] := by rw [List.take_length]; rfl
  rw [hd]
  generalize c.chg = q at hs1 hs2 hq ⊢
  refine lp (fn := Try.f34) (fun x : Nat × Nat => x.1 ≤ q.length ∧ 0 < x.2) (fun x => S34 f t vs q ((q.take x.1).map (cut f t)) x.1 x.2) (fun x => q.length - x.1) [0, 1, 7, 8, 19, 20, 21] (by kernel_rfl) (fun x hx => of_eq (n34a f t vs q _ x.1 x.2 _ _) ?_) (0, 1) ⟨Nat.zero_le _, by decide⟩
  obtain ⟨i, N⟩ := x
  obtain ⟨hi, hN0⟩ := hx
  simp only at hi hN0 ⊢
  refine cond_intro (fun hlt => ?_) fun hge => ?_
  · have hlt := ltI hlt
    have hmem := getD_mem hlt
    have hmt := map_take (cut f t) q i hlt
    have hol : ((q.take i).map (cut f t)).length = i := by simp; omega
    rw [Int.toNat_natCast]
    generalize (q.take i).map (cut f t) = out at hmt hol ⊢
    generalize q.getD i default = l at hmt hmem ⊢
    have hll := hs2 l hmem
    refine ⟨⟨by omega, by omega⟩, fun hlm => ?_⟩
    refine at_le (st' := T34 f t vs q out i N l (cut f t (l.take 0)) (0 : Nat)) ?_ ((StLe.idle _ none 11 2 (fun i => Cg.d (([] : List Cg).getD i default)) rfl).cast (by kernel_rfl))
    refine lp (fn := Try.f34) (fun k : Nat => k ≤ l.length) (fun k => T34 f t vs q out i N l (cut f t (l.take k)) k) (fun k => l.length - k) [0, 1, 7, 8, 11, 19, 20, 21, 25, 26, 27] (by kernel_rfl) (fun k hk => of_eq (n34b f t vs q out i N l _ k _ _ _) (cond_intro (fun hlt2 => ?_) fun hge2 => ?_)) 0 (Nat.zero_le _)
    · have hlt2 := ltI hlt2
      rw [add1 hlt2 hlm, Int.toNat_natCast]
      have hcs := cut_snoc f t (l.take k) (l.getD k default)
      rw [← take_snoc _ _ hlt2] at hcs
      have hcl := cut_len f t (l.take k)
      have hcl2 : (l.take k).length ≤ k := by simp; omega
      generalize l.getD k default = x at hcs ⊢
      refine ⟨⟨by omega, by omega⟩, trivial, cond_intro (fun h => ?_) fun h => ?_⟩
      · have h : inB f t x = true := h
        rw [h] at hcs
        refine ⟨⟨upd_same _ _ _, by unfold roomM; omega⟩, Nx.of (k + 1) (by omega) (by omega) ?_⟩
        unfold T34
        rw [hcs]
        exact (StLe.set 11 rfl (Wk.snoc (x := x)) rfl rfl).trans (StLe.heap (by simp [hN2, upd_upd]))
      · have h : inB f t x = false := h
        rw [h] at hcs
        refine Nx.of (k + 1) (by omega) (by omega) ?_
        rw [hcs]; simp only [Bool.false_eq_true, if_false, List.append_nil]; exact StLe.refl _ _
    · have := geI hge2
      rw [List.take_of_length_le this]
      rw [add1 hlt hq]
      refine ⟨⟨by rw [upd_other _ _ (by omega), upd_same], by unfold roomM; omega⟩, trivial, Nx.of (i + 1, N + 1) ⟨hlt, by simp only; omega⟩ (by simp only; omega) ?_⟩
      unfold S34
      rw [hmt]
      have hW := Wk.snocW (a := out) (x := cut f t l) (sz := 1) (t := 0) (enc := fun l => L l 2 Cg.d) (Wk.tokL (a := cut f t l) (sz := 2) (t := N) (enc := Cg.d)) ones_L
      refine (StLe.setOwn (of_decide_eq_true (by kernel_rfl)) 8 rfl (Wks.cons (Wk.refl _) (Wks.cons (Wk.refl _) (Wks.cons (Wk.refl _) (Wks.cons hW (Wks.refl _)))))).trans (StLe.heapLe ?_)
      unfold hN
      rw [List.length_append]
      exact hN_drop hN0 fun _ => rfl
  · have := geI hge
    have hii : i = q.length := by omega
    subst hii
    exact ⟨trivial, Wk.agg (Wks.cons (Wk.refl _) (Wks.cons (Wk.refl _) (Wks.cons (Wk.refl _) (Wks.cons (Wk.tokL (enc := fun l => L l 2 Cg.d)) (Wks.refl _)))))⟩
theorem F37 : OkF 37 Try.f37 := ⟨by kernel_rfl, by kernel_rfl, by kernel_rfl⟩
def lv37 : List (List Nat × List Nat) := [([1, 1, 0, 1, 0], [1, 2, 4, 8, 9, 10]), ([1, 1, 0, 1, 0, 0, 1, 0, 0, 1, 0, 1, 0], [1, 2, 4, 8, 9, 10, 11, 12])]
noncomputable def n37s  : List Nat → Nat → Option Ans := scrAt []
theorem n37 (c : Chk) (f t : Int) (vs : List Str) (K : D → Prop) : runS (En Try.f37) (fi Try.f37 K) (n37s ) lv37 200 [.code []] ⟨argSlots 0 [c.d, I f, I t, L vs 1 .str], .empty⟩ =
  (True ∧ At (En Try.f37) (fi Try.f37 K) [It.code [1, 1, 0, 1, 0], It.blk 0, It.code [1, 1, 1]] { sl := [(1, I f), (2, I t), (4, .own [I c.frm, I c.to, L c.vals 1 .str, L c.chg 1 fun l => L l 2 Cg.d, L c.gaps 2 Gp.d]), (8, .own [I 0, I 0, .list 0 0 (fun _ => D.junk) .full, .list 0 0 (fun _ => D.junk) .full, .list 0 0 (fun _ => D.junk) .full]), (9, .own [I f, I t, L vs 1 .str, .list 0 0 (fun _ => D.junk) .full, .list 0 0 (fun _ => D.junk) .full]), (10, I 0)], h := Heap.empty : St }) := by kernel_rfl
def S37 (c : Chk) (f t : Int) (vs : List Str) (out : List (List Cg)) (i : Int) (N : Nat) : St := ⟨[(1, I f), (2, I t), (4, .own [I c.frm, I c.to, L c.vals 1 .str, L c.chg 1 (fun l => L l 2 Cg.d), L c.gaps 2 Gp.d]), (8, .own z5), (9, .own [I f, I t, L vs 1 .str, LT out 1 (fun l => L l 2 Cg.d) 0, .list 0 0 (fun _ => .junk) .full]), (10, I i)], hN out.length N⟩
noncomputable def n37as  : List Nat → Nat → Option Ans := scrAt []
theorem n37a (c : Chk) (f t : Int) (vs : List Str) (out : List (List Cg)) (i : Int) (N : Nat) (J : St → Prop) (K : D → Prop) : runS (En Try.f37) (fi Try.f37 K) (n37as ) lv37 200 [.code [1, 1, 0, 1, 0, 0], stp [1, 2, 4, 8, 9, 10] J, .blk 0, .code [1, 1, 1]] (S37 c f t vs out i N) =
  (c.chg.length ≤ lenM → bif decide (i < (↑c.chg.length : Int)) then At (En Try.f37) (fi Try.f37 K) [It.code [1, 1, 0, 1, 0, 0, 1, 0, 0, 1, 0, 1, 0], It.blk 2, It.code [1, 1, 0, 1, 0, 0, 1, 0, 0, 1, 1], It.blk 1, It.code [1, 1, 0, 1, 0, 0, 1, 1], stp [1, 2, 4, 8, 9, 10] J, It.blk 0, It.code [1, 1, 1]] { sl := [(1, I f), (2, I t), (4, .own [I c.frm, I c.to, L c.vals 1 .str, L c.chg 1 fun l => L l 2 Cg.d, L c.gaps 2 Gp.d]), (8, .own [I 0, I 0, .list 0 0 (fun _ => D.junk) .full, .list 0 0 (fun _ => D.junk) .full, .list 0 0 (fun _ => D.junk) .full]), (9, .own [I f, I t, L vs 1 .str, .list out.length 1 (fun i => L (out.getD i default) 2 Cg.d) (.tok 0 1), .list 0 0 (fun _ => D.junk) .full]), (10, I i), (11, .list 0 2 (litG []) .full), (12, I 0)], h := { box := fun _ => none, nl := 0, hw := upd (fun _ => none) 0 (some out.length), nt := N, vw := fun _ => none : Heap } : St } else True ∧ K (.agg [I f, I t, L vs 1 .str, .list out.length 1 (fun i => L (out.getD i default) 2 Cg.d) (.tok 0 1), .list 0 0 (fun _ => D.junk) .full])) := by kernel_rfl
def T37 (c : Chk) (f t : Int) (vs : List Str) (out : List (List Cg)) (i : Int) (N : Nat) (o : List Cg) (k : Int) : St := ⟨[(1, I f), (2, I t), (4, .own [I c.frm, I c.to, L c.vals 1 .str, L c.chg 1 (fun l => L l 2 Cg.d), L c.gaps 2 Gp.d]), (8, .own z5), (9, .own [I f, I t, L vs 1 .str, LT out 1 (fun l => L l 2 Cg.d) 0, .list 0 0 (fun _ => .junk) .full]), (10, I i), (11, LT o 2 Cg.d N), (12, I k)], hN2 out.length N o.length⟩
noncomputable def n37bs  : List Nat → Nat → Option Ans := scrAt []
theorem n37b (c : Chk) (f t : Int) (vs : List Str) (out : List (List Cg)) (i : Int) (N : Nat) (o : List Cg) (k : Int) (J J2 : St → Prop) (K : D → Prop) : runS (En Try.f37) (fi Try.f37 K) (n37bs ) lv37 200 [.code [1, 1, 0, 1, 0, 0, 1, 0, 0, 1, 0, 1, 0, 0], stp [1, 2, 4, 8, 9, 10, 11, 12] J, .blk 2, .code [1, 1, 0, 1, 0, 0, 1, 0, 0, 1, 1], .blk 1, .code [1, 1, 0, 1, 0, 0, 1, 1], stp [1, 2, 4, 8, 9, 10] J2, .blk 0, .code [1, 1, 1]] (T37 c f t vs out i N o k) =
  ((0 ≤ i ∧ i < (↑c.chg.length : Int)) ∧
  ((c.chg.getD i.toNat default).length ≤ lenM →
    bif decide (k < (↑(c.chg.getD i.toNat default).length : Int)) then
      (0 ≤ i ∧ i < (↑c.chg.length : Int)) ∧
        (0 ≤ k ∧ k < (↑(c.chg.getD i.toNat default).length : Int)) ∧
          (decide (((c.chg.getD i.toNat default).getD k.toNat default).time > f) = true → 0 ≤ i ∧ i < (↑c.chg.length : Int)) ∧
            (decide (((c.chg.getD i.toNat default).getD k.toNat default).time > f) = true → 0 ≤ k ∧ k < (↑(c.chg.getD i.toNat default).length : Int)) ∧
              bif bif decide (((c.chg.getD i.toNat default).getD k.toNat default).time > f) then decide (((c.chg.getD i.toNat default).getD k.toNat default).time ≤ t) else false then (0 ≤ i ∧ i < (↑c.chg.length : Int)) ∧ (0 ≤ k ∧ k < (↑(c.chg.getD i.toNat default).length : Int)) ∧ (upd (upd (fun _ => none) 0 (some out.length)) N (some o.length) N = some o.length ∧ (o.length + 1) * 24 ≤ roomM) ∧ J { sl := [(1, I f), (2, I t), (4, .own [I c.frm, I c.to, L c.vals 1 .str, L c.chg 1 fun l => L l 2 Cg.d, L c.gaps 2 Gp.d]), (8, .own [I 0, I 0, .list 0 0 (fun _ => D.junk) .full, .list 0 0 (fun _ => D.junk) .full, .list 0 0 (fun _ => D.junk) .full]), (9, .own [I f, I t, L vs 1 .str, .list out.length 1 (fun i => L (out.getD i default) 2 Cg.d) (.tok 0 1), .list 0 0 (fun _ => D.junk) .full]), (10, I i), (11, .list (o.length + 1) 2 (catG o.length (fun i => (o.getD i default).d) (litG [.agg [I ((c.chg.getD i.toNat default).getD k.toNat default).time, .str ((c.chg.getD i.toNat default).getD k.toNat default).val]])) (.tok N 2)), (12, I (addI .i64 k 1))], h := { box := fun _ => none, nl := 0, hw := upd (upd (upd (fun _ => none) 0 (some out.length)) N (some o.length)) N (some (o.length + 1)), nt := N + 1, vw := fun _ => none : Heap } : St }
              else J { sl := [(1, I f), (2, I t), (4, .own [I c.frm, I c.to, L c.vals 1 .str, L c.chg 1 fun l => L l 2 Cg.d, L c.gaps 2 Gp.d]), (8, .own [I 0, I 0, .list 0 0 (fun _ => D.junk) .full, .list 0 0 (fun _ => D.junk) .full, .list 0 0 (fun _ => D.junk) .full]), (9, .own [I f, I t, L vs 1 .str, .list out.length 1 (fun i => L (out.getD i default) 2 Cg.d) (.tok 0 1), .list 0 0 (fun _ => D.junk) .full]), (10, I i), (11, .list o.length 2 (fun i => (o.getD i default).d) (.tok N 2)), (12, I (addI .i64 k 1))], h := { box := fun _ => none, nl := 0, hw := upd (upd (fun _ => none) 0 (some out.length)) N (some o.length), nt := N + 1, vw := fun _ => none : Heap } : St }
    else (upd (upd (fun _ => none) 0 (some out.length)) N (some o.length) 0 = some out.length ∧ (out.length + 1) * 24 ≤ roomM) ∧ True ∧ J2 { sl := [(1, I f), (2, I t), (4, .own [I c.frm, I c.to, L c.vals 1 .str, L c.chg 1 fun l => L l 2 Cg.d, L c.gaps 2 Gp.d]), (8, .own [I 0, I 0, .list 0 0 (fun _ => D.junk) .full, .list 0 0 (fun _ => D.junk) .full, .list 0 0 (fun _ => D.junk) .full]), (9, .own [I f, I t, L vs 1 .str, .list (out.length + 1) 1 (catG out.length (fun i => L (out.getD i default) 2 Cg.d) (litG [.list o.length 2 (fun i => (o.getD i default).d) (.tok N 2)])) (.tok 0 1), .list 0 0 (fun _ => D.junk) .full]), (10, I (addI .i64 i 1))], h := { box := fun _ => none, nl := 0, hw := upd (upd (upd (fun _ => none) 0 (some out.length)) N (some o.length)) 0 (some (out.length + 1)), nt := N + 1, vw := fun _ => none : Heap } : St })) := by kernel_rfl

theorem c37 (c : Chk) (f t : Int) (vs : List Str) (hs : SmallC c) : Pure PP 37 [c.d, I f, I t, L vs 1 .str] (partD c f t vs) := by
  obtain ⟨hs1, _, _, hs2⟩ := hs
  refine pu F37 (by kernel_rfl) (of_eq (n37 c f t vs _) ⟨trivial, ?_⟩)
  have hq : c.chg.length ≤ lenM := by unfold lenM; omega
  refine at_le (st' := S37 c f t vs ((c.chg.take 0).map (cut f t)) (0 : Nat) 1) ?_ ((StLe.idleOwn _ none 9 3 1 (fun i => L (([] : List (List Cg)).getD i default) 2 Cg.d) rfl rfl).cast (by kernel_rfl))
  have hd : partD c f t vs = .agg [I f, I t, L vs 1 .str, L ((c.chg.take c.chg.length).map (cut f t)) 1 (fun l => L l 2 Cg.d), .list 0 0 (fun _ => .junk) .full] := by rw [List.take_length]; rfl
  rw [hd]
  refine lp (fn := Try.f37) (fun x : Nat × Nat => x.1 ≤ c.chg.length ∧ 0 < x.2) (fun x => S37 c f t vs ((c.chg.take x.1).map (cut f t)) x.1 x.2) (fun x => c.chg.length - x.1) [1, 2, 4, 8, 9, 10] (by kernel_rfl) (fun x hx => of_eq (n37a c f t vs _ x.1 x.2 _ _) ?_) (0, 1) ⟨Nat.zero_le _, by decide⟩
  obtain ⟨i, N⟩ := x
  obtain ⟨hi, hN0⟩ := hx
  simp only at hi hN0 ⊢
  refine fun _ => cond_intro (fun hlt => ?_) fun hge => ?_
  · have hlt := ltI hlt
    have hmem := getD_mem hlt
    have hmt := map_take (cut f t) c.chg i hlt
    have hol : ((c.chg.take i).map (cut f t)).length = i := by simp; omega
    generalize (c.chg.take i).map (cut f t) = out at hmt hol ⊢
    refine at_le (st' := T37 c f t vs out i N (cut f t ((c.chg.getD i default).take 0)) (0 : Nat)) ?_ ((StLe.idle _ none 11 2 (fun i => Cg.d (([] : List Cg).getD i default)) rfl).cast (by kernel_rfl))
    refine lp (fn := Try.f37) (fun k : Nat => k ≤ (c.chg.getD i default).length) (fun k => T37 c f t vs out i N (cut f t ((c.chg.getD i default).take k)) k) (fun k => (c.chg.getD i default).length - k) [1, 2, 4, 8, 9, 10, 11, 12] (by kernel_rfl) (fun k hk => of_eq (n37b c f t vs out i N _ k _ _ _) ?_) 0 (Nat.zero_le _)
    rw [Int.toNat_natCast]
    generalize c.chg.getD i default = l at hmt hmem hk ⊢
    have hll := hs2 l hmem
    refine ⟨⟨by omega, by omega⟩, fun hlm => cond_intro (fun hlt2 => ?_) fun hge2 => ?_⟩
    · have hlt2 := ltI hlt2
      rw [add1 hlt2 hlm, Int.toNat_natCast]
      have hcs := cut_snoc f t (l.take k) (l.getD k default)
      rw [← take_snoc _ _ hlt2] at hcs
      have hcl := cut_len f t (l.take k)
      have hcl2 : (l.take k).length ≤ k := by simp; omega
      generalize l.getD k default = x at hcs ⊢
      refine ⟨⟨by omega, by omega⟩, ⟨by omega, by omega⟩, fun _ => ⟨by omega, by omega⟩, fun _ => ⟨by omega, by omega⟩, cond_intro (fun h => ?_) fun h => ?_⟩
      · have h : inB f t x = true := h
        rw [h] at hcs
        refine ⟨⟨by omega, by omega⟩, ⟨by omega, by omega⟩, ⟨upd_same _ _ _, by unfold roomM; omega⟩, Nx.of (k + 1) (by omega) (by omega) ?_⟩
        unfold T37
        rw [hcs]
        exact (StLe.set 11 rfl (Wk.snoc (x := x)) rfl rfl).trans (StLe.heap (by simp [hN2, upd_upd]))
      · have h : inB f t x = false := h
        rw [h] at hcs
        refine Nx.of (k + 1) (by omega) (by omega) ?_
        rw [hcs]; simp only [Bool.false_eq_true, if_false, List.append_nil]; exact StLe.refl _ _
    · have := geI hge2
      rw [List.take_of_length_le this]
      rw [add1 hlt hq]
      refine ⟨⟨by rw [upd_other _ _ (by omega), upd_same], by unfold roomM; omega⟩, trivial, Nx.of (i + 1, N + 1) ⟨hlt, by simp only; omega⟩ (by simp only; omega) ?_⟩
      unfold S37
      rw [hmt]
      have hW := Wk.snocW (a := out) (x := cut f t l) (sz := 1) (t := 0) (enc := fun l => L l 2 Cg.d) (Wk.tokL (a := cut f t l) (sz := 2) (t := N) (enc := Cg.d)) ones_L
      refine (StLe.setOwn (of_decide_eq_true (by kernel_rfl)) 9 rfl (Wks.cons (Wk.refl _) (Wks.cons (Wk.refl _) (Wks.cons (Wk.refl _) (Wks.cons hW (Wks.refl _)))))).trans (StLe.heapLe ?_)
      unfold hN
      rw [List.length_append]
      exact hN_drop hN0 fun _ => rfl
  · have := geI hge
    have hii : i = c.chg.length := by omega
    subst hii
    exact ⟨trivial, Wk.agg (Wks.cons (Wk.refl _) (Wks.cons (Wk.refl _) (Wks.cons (Wk.refl _) (Wks.cons (Wk.tokL (enc := fun l => L l 2 Cg.d)) (Wks.refl _)))))⟩

theorem F38 : OkF 38 Try.f38 := ⟨by kernel_rfl, by kernel_rfl, by kernel_rfl⟩
def lv38 : List (List Nat × List Nat) := [([1, 1, 0, 1, 0], [1, 2, 5, 6])]
noncomputable def n38s  : List Nat → Nat → Option Ans := scrAt []
theorem n38 (c : Chk) (t : Int) (K : D → Prop) : runS (En Try.f38) (fi Try.f38 K) (n38s ) lv38 200 [.code []] ⟨argSlots 0 [c.d, I t], .empty⟩ =
  (At (En Try.f38) (fi Try.f38 K) [It.code [1, 1, 0, 1, 0], It.blk 0, It.code [1, 1, 1]] { sl := [(1, I t), (2, .own [I c.frm, I c.to, L c.vals 1 .str, L c.chg 1 fun l => L l 2 Cg.d, L c.gaps 2 Gp.d]), (5, .list 0 1 (litG []) .full), (6, I 0)], h := Heap.empty : St }) := by kernel_rfl
def S38 (c : Chk) (t : Int) (out : List Str) (i : Int) : St := ⟨[(1, I t), (2, .own [I c.frm, I c.to, L c.vals 1 .str, L c.chg 1 (fun l => L l 2 Cg.d), L c.gaps 2 Gp.d]), (5, LT out 1 .str 0), (6, I i)], hT .empty out.length⟩
noncomputable def n38as (c : Chk) (t : Int) (i : Int) : List Nat → Nat → Option Ans := scrAt [([1, 1, 0, 1, 0, 0, 1, 0, 0], 12, Ans.pure [.str (c.vals.getD i.toNat default), L (c.chg.getD i.toNat default) 2 Cg.d, I t] (.str (valAt (c.vals.getD i.toNat default) (c.chg.getD i.toNat default) t)))]
theorem n38a (c : Chk) (t : Int) (out : List Str) (i : Int) (J : St → Prop) (K : D → Prop) : runS (En Try.f38) (fi Try.f38 K) (n38as c t i) lv38 200 [.code [1, 1, 0, 1, 0, 0], stp [1, 2, 5, 6] J, .blk 0, .code [1, 1, 1]] (S38 c t out i) =
  (c.vals.length ≤ lenM → bif decide (i < (↑c.vals.length : Int)) then (0 ≤ i ∧ i < (↑c.vals.length : Int)) ∧ (0 ≤ i ∧ i < (↑c.chg.length : Int)) ∧ PureW PP 55 [.str (c.vals.getD i.toNat default), L (c.chg.getD i.toNat default) 2 Cg.d, I t] [.str (c.vals.getD i.toNat default), L (c.chg.getD i.toNat default) 2 Cg.d, I t] (.str (valAt (c.vals.getD i.toNat default) (c.chg.getD i.toNat default) t)) ∧ (upd (fun _ => none) 0 (some out.length) 0 = some out.length ∧ (out.length + 1) * 16 ≤ roomM) ∧ J { sl := [(1, I t), (2, .own [I c.frm, I c.to, L c.vals 1 .str, L c.chg 1 fun l => L l 2 Cg.d, L c.gaps 2 Gp.d]), (5, .list (out.length + 1) 1 (catG out.length (fun i => .str (out.getD i default)) (litG [.str (valAt (c.vals.getD i.toNat default) (c.chg.getD i.toNat default) t)])) (.tok 0 1)), (6, I (addI .i64 i 1))], h := { box := fun _ => none, nl := 0, hw := upd (upd (fun _ => none) 0 (some out.length)) 0 (some (out.length + 1)), nt := 1, vw := fun _ => none : Heap } : St } else K (.list out.length 1 (fun i => .str (out.getD i default)) (.tok 0 1))) := by kernel_rfl
theorem valsAt_take (c : Chk) (t : Int) (i : Nat) (h : i < c.vals.length) : (valsAt c t).take (i + 1) = (valsAt c t).take i ++ [valAt (c.vals.getD i default) (c.chg.getD i default) t] := by
  have hl : (valsAt c t).length = c.vals.length := by simp [valsAt]
  rw [take_snoc _ _ (by omega)]
  congr 2
  simp [valsAt, List.getD, h]
theorem c38 (c : Chk) (t : Int) (hc : c.chg.length = c.vals.length) (hm : c.vals.length ≤ 100000) : Pure PP 38 [c.d, I t] (L (valsAt c t) 1 .str) := by
  refine pu F38 (by kernel_rfl) (of_eq (n38 c t _) ?_)
  have hl : (valsAt c t).length = c.vals.length := by simp [valsAt]
  refine at_le (st' := S38 c t ((valsAt c t).take 0) (0 : Nat)) ?_ (StLe.tok0 _ (α := Str) (enc := .str) 5 1 rfl)
  refine lp (fn := Try.f38) (fun i : Nat => i ≤ c.vals.length) (fun i => S38 c t ((valsAt c t).take i) i) (fun i => c.vals.length - i) [1, 2, 5, 6] (by kernel_rfl) (fun i hi => of_eq (n38a c t _ i _ _) fun hv => cond_intro (fun hlt => ?_) fun hge => ?_) 0 (Nat.zero_le _)
  · have hlt := ltI hlt
    have hv2 := valsAt_take c t i hlt
    have hlen : ((valsAt c t).take i).length = i := by simp; omega
    rw [add1 hlt hv, Int.toNat_natCast]
    refine ⟨⟨by omega, by omega⟩, ⟨by omega, by omega⟩, PureW.mk (c55 _ _ _), ⟨upd_same _ _ _, by unfold roomM; omega⟩, Nx.of (i + 1) (by omega) (by omega) ?_⟩
    unfold S38
    rw [hv2]
    exact (StLe.set 5 rfl (Wk.snoc (enc := .str)) rfl rfl).trans (StLe.heap (by simp [hT, upd_upd, Heap.empty]))
  · have := geI hge
    rw [List.take_of_length_le (by omega)]
    exact Wk.tokL (enc := .str)

end Go.Proofs.Ytmlhaikblfjghaa.S1
