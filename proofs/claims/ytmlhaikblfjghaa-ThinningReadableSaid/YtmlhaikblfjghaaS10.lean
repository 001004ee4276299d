/- Seat 1: the reference's plans; equal lists. -/
import Derived.Test.YtmlhaikblfjghaaS9
namespace Go.Proofs.Ytmlhaikblfjghaa.S1
open Go Go.Ab Go.Proofs
theorem F15 : OkF 15 Try.f15 := ⟨by kernel_rfl, by kernel_rfl, by kernel_rfl⟩
def lv15 : List (List Nat × List Nat) := [([1, 1, 1, 0, 1, 0], [2, 3, 5, 6])]
noncomputable def n15s (p : Pol) (d : Dir) : List Nat → Nat → Option Ans := scrAt [([1, 1, 0, 0], 1, Ans.pure [p.d] (B (polOk p))), ([1, 1, 0, 0], 5, Ans.pure [d.d] (B (dirOk d)))]
theorem n15 (p : Pol) (d : Dir) (K : D → Prop) : runS (En Try.f15) (fi Try.f15 K) (n15s p d) lv15 200 [.code []] ⟨argSlots 0 [p.d, d.d], .empty⟩ =
  (PureW PP 12 [p.d] [p.d] (B (polOk p)) ∧ ((!!polOk p) = true → PureW PP 30 [d.d] [d.d] (B (dirOk d))) ∧ bif bif !polOk p then true else !dirOk d then K (.list 0 7 (litG []) .full) else At (En Try.f15) (fi Try.f15 K) [It.code [1, 1, 1, 0, 1, 0], It.blk 0, It.code [1, 1, 1, 1]] { sl := [(2, .own [I p.full, I p.smp, I p.stp]), (3, .own [I d.hdr.sec, I d.hdr.len, I d.hdr.sum, L d.blk 7 Ent.d]), (5, .list 0 7 (litG []) .full), (6, I 0)], h := Heap.empty : St }) := by kernel_rfl
def S15 (p : Pol) (d : Dir) (out : List Ent) (i : Int) : St := ⟨[(2, .own [I p.full, I p.smp, I p.stp]), (3, .own [I d.hdr.sec, I d.hdr.len, I d.hdr.sum, L d.blk 7 Ent.d]), (5, LT out 7 Ent.d 0), (6, I i)], hT .empty out.length⟩
noncomputable def n15as (p : Pol) (d : Dir) (i : Int) : List Nat → Nat → Option Ans := scrAt [([1, 1, 1, 0, 1, 0, 0, 1, 0, 0, 1, 0], 3, Ans.pure [d.d] (I (endOf d))), ([1, 1, 1, 0, 1, 0, 0, 1, 0, 0, 1, 0], 4, Ans.pure [p.d, (d.blk.getD i.toNat default).d, I (endOf d)] (.tup [I (level p (d.blk.getD i.toNat default) (endOf d)).fst, I (level p (d.blk.getD i.toNat default) (endOf d)).snd]))]
theorem n15a (p : Pol) (d : Dir) (out : List Ent) (i : Int) (J : St → Prop) (K : D → Prop) : runS (En Try.f15) (fi Try.f15 K) (n15as p d i) lv15 200 [.code [1, 1, 1, 0, 1, 0, 0], stp [2, 3, 5, 6] J, .blk 0, .code [1, 1, 1, 1]] (S15 p d out i) =
  (d.blk.length ≤ lenM →
  bif decide (i < subI .i64 (↑d.blk.length : Int) 1) then
    (0 ≤ i ∧ i < (↑d.blk.length : Int)) ∧
      True ∧
        PureW PP 31 [d.d] [d.d] (I (endOf d)) ∧
          PureW PP 10 [p.d, (d.blk.getD i.toNat default).d, I (endOf d)] [p.d, (d.blk.getD i.toNat default).d, I (endOf d)] (.tup [I (level p (d.blk.getD i.toNat default) (endOf d)).fst, I (level p (d.blk.getD i.toNat default) (endOf d)).snd]) ∧
            ((bif bif (d.blk.getD i.toNat default).lvl == 1 then (level p (d.blk.getD i.toNat default) (endOf d)).fst == 1 else false then decide ((level p (d.blk.getD i.toNat default) (endOf d)).snd > (d.blk.getD i.toNat default).stp) else false) = true → (d.blk.getD i.toNat default).stp ≠ 0) ∧
              bif bif bif bif (d.blk.getD i.toNat default).lvl == 0 then (level p (d.blk.getD i.toNat default) (endOf d)).fst != 0 else false then true else bif (d.blk.getD i.toNat default).lvl == 1 then (level p (d.blk.getD i.toNat default) (endOf d)).fst == 2 else false then true else bif bif bif (d.blk.getD i.toNat default).lvl == 1 then (level p (d.blk.getD i.toNat default) (endOf d)).fst == 1 else false then decide ((level p (d.blk.getD i.toNat default) (endOf d)).snd > (d.blk.getD i.toNat default).stp) else false then (level p (d.blk.getD i.toNat default) (endOf d)).snd.tmod (d.blk.getD i.toNat default).stp == 0 else false then True ∧ True ∧ (upd (fun x => none) 0 (some out.length) 0 = some out.length ∧ (out.length + 1) * 56 ≤ roomM) ∧ J { sl := [(2, .own [I p.full, I p.smp, I p.stp]), (3, .own [I d.hdr.sec, I d.hdr.len, I d.hdr.sum, L d.blk 7 Ent.d]), (5, .list (out.length + 1) 7 (catG out.length (fun i => (out.getD i default).d) (litG [.agg [I (d.blk.getD i.toNat default).frm, I (d.blk.getD i.toNat default).to, I (level p (d.blk.getD i.toNat default) (endOf d)).fst, I (level p (d.blk.getD i.toNat default) (endOf d)).snd, I (d.blk.getD i.toNat default).plc.sec, I (d.blk.getD i.toNat default).plc.len, I (d.blk.getD i.toNat default).plc.sum]])) (.tok 0 7)), (6, I (addI .i64 i 1))], h := { box := fun x => none, nl := 0, hw := upd (upd (fun x => none) 0 (some out.length)) 0 (some (out.length + 1)), nt := 1 : Heap } : St }
              else J { sl := [(2, .own [I p.full, I p.smp, I p.stp]), (3, .own [I d.hdr.sec, I d.hdr.len, I d.hdr.sum, L d.blk 7 Ent.d]), (5, .list out.length 7 (fun i => (out.getD i default).d) (.tok 0 7)), (6, I (addI .i64 i 1))], h := { box := fun x => none, nl := 0, hw := upd (fun x => none) 0 (some out.length), nt := 1 : Heap } : St }
  else K (.list out.length 7 (fun i => (out.getD i default).d) (.tok 0 7))) := by kernel_rfl
theorem thinR (p : Pol) (en : Int) (x : Ent) : (bif bif bif x.lvl == 0 then (level p x en).1 != 0 else false then true else bif x.lvl == 1 then (level p x en).1 == 2 else false then true
    else bif bif bif x.lvl == 1 then (level p x en).1 == 1 else false then decide ((level p x en).2 > x.stp) else false then (level p x en).2.tmod x.stp == 0 else false) = thinB p en x := by
  unfold thinB
  by_cases h1 : x.lvl = 1
  · simp [h1]
  · have : (x.lvl == 1) = false := by simpa using h1
    simp [this]
theorem c15 (p : Pol) (d : Dir) : Pure PP 15 [p.d, d.d] (L (plan p d) 7 Ent.d) := by
  refine pu F15 (by kernel_rfl) (of_eq (n15 p d _) ⟨PureW.mk (c12 _), fun _ => PureW.mk (c30' _), cond_intro (fun h => ?_) fun h => ?_⟩)
  · simp only [plan, h, cond_true]; exact Wk.nilL
  · have hd : dirOk d = true := by
      cases h1 : polOk p <;> cases h2 : dirOk d <;> simp_all
    simp only [plan, h, cond_false]
    have hle := dirOk_len hd
    have hv := dirOk_stp hd
    refine at_le (st' := S15 p d (planL p (endOf d) (d.blk.take 0)) (0 : Nat)) ?_ (StLe.tok0 _ (α := Ent) (enc := Ent.d) 5 7 rfl)
    refine lp (fn := Try.f15) (fun i : Nat => i ≤ d.blk.length - 1) (fun i => S15 p d (planL p (endOf d) (d.blk.take i)) i) (fun i => d.blk.length - i) [2, 3, 5, 6] (by kernel_rfl) (fun i hi => of_eq (n15a p d _ i _ _) fun hl => ?_) 0 (Nat.zero_le _)
    rw [sub64 (by omega) (by omega)]
    refine cond_intro (fun hlt => ?_) fun hge => ?_
    · have hlt : i < d.blk.length - 1 := by simp at hlt; omega
      rw [Int.toNat_natCast, add1 (show i < d.blk.length by omega) hl]
      have hs := planL_snoc p (endOf d) (d.blk.take i) (d.blk.getD i default)
      rw [← take_snoc _ _ (by omega)] at hs
      have hmem := getD_mem (l := d.blk) (i := i) (by omega)
      have hlen := planL_len p (endOf d) (d.blk.take i)
      have hlen2 : (d.blk.take i).length ≤ i := by simp; omega
      generalize d.blk.getD i default = x at hs hmem ⊢
      rw [thinR]
      refine ⟨⟨by omega, by omega⟩, trivial, PureW.mk (c31 _), PureW.mk (c10 _ _ _), fun hc => hv x hmem (by
        cases h1 : (x.lvl == 1) with
        | true => simpa using h1
        | false => rw [h1] at hc; simp at hc), cond_intro (fun h2 => ⟨trivial, trivial, ⟨rfl, by unfold roomM; omega⟩, ?_⟩) fun h2 => ?_⟩
      · rw [h2] at hs
        refine Nx.of (i + 1) (by omega) (by omega) ?_
        unfold S15
        rw [hs]
        exact (StLe.set 5 rfl (Wk.snoc (x := thinE p (endOf d) x)) rfl rfl).trans (StLe.heap (by simp [hT, upd_upd, Heap.empty]))
      · rw [h2] at hs
        refine Nx.of (i + 1) (by omega) (by omega) ?_
        rw [hs]; simp only [Bool.false_eq_true, if_false, List.append_nil]; exact StLe.refl _ _
    · have : i = d.blk.length - 1 := by simp at hge; omega
      rw [this]
      exact Wk.tokL
theorem F26 : OkF 26 Try.f26 := ⟨by kernel_rfl, by kernel_rfl, by kernel_rfl⟩
def lv26 : List (List Nat × List Nat) := [([1, 1, 0, 1, 0], [2, 3, 5])]
noncomputable def n26s  : List Nat → Nat → Option Ans := scrAt []
theorem n26 (a b : Dir) (K : D → Prop) : runS (En Try.f26) (fi Try.f26 K) (n26s ) lv26 200 [.code []] ⟨argSlots 0 [a.d, b.d], .empty⟩ =
  (((!!(a.hdr.sec == b.hdr.sec && (a.hdr.len == b.hdr.len && a.hdr.sum == b.hdr.sum))) = true → a.blk.length ≤ lenM) → ((!!(a.hdr.sec == b.hdr.sec && (a.hdr.len == b.hdr.len && a.hdr.sum == b.hdr.sum))) = true → b.blk.length ≤ lenM) → bif bif !(a.hdr.sec == b.hdr.sec && (a.hdr.len == b.hdr.len && a.hdr.sum == b.hdr.sum)) then true else (↑a.blk.length : Int) != (↑b.blk.length : Int) then K (B false) else At (En Try.f26) (fi Try.f26 K) [It.code [1, 1, 0, 1, 0], It.blk 0, It.code [1, 1, 1]] { sl := [(2, .own [I a.hdr.sec, I a.hdr.len, I a.hdr.sum, L a.blk 7 Ent.d]), (3, .own [I b.hdr.sec, I b.hdr.len, I b.hdr.sum, L b.blk 7 Ent.d]), (5, I 0)], h := Heap.empty : St }) := by kernel_rfl
def S26 (a b : Dir) (i : Int) : St := ⟨[(2, .own [I a.hdr.sec, I a.hdr.len, I a.hdr.sum, L a.blk 7 Ent.d]), (3, .own [I b.hdr.sec, I b.hdr.len, I b.hdr.sum, L b.blk 7 Ent.d]), (5, I i)], .empty⟩
noncomputable def n26as  : List Nat → Nat → Option Ans := scrAt []
theorem n26a (a b : Dir) (i : Int) (J : St → Prop) (K : D → Prop) : runS (En Try.f26) (fi Try.f26 K) (n26as ) lv26 200 [.code [1, 1, 0, 1, 0, 0], stp [2, 3, 5] J, .blk 0, .code [1, 1, 1]] (S26 a b i) =
  (a.blk.length ≤ lenM → bif decide (i < (↑a.blk.length : Int)) then (0 ≤ i ∧ i < (↑a.blk.length : Int)) ∧ (0 ≤ i ∧ i < (↑b.blk.length : Int)) ∧ bif !((a.blk.getD i.toNat default).frm == (b.blk.getD i.toNat default).frm && ((a.blk.getD i.toNat default).to == (b.blk.getD i.toNat default).to && ((a.blk.getD i.toNat default).lvl == (b.blk.getD i.toNat default).lvl && ((a.blk.getD i.toNat default).stp == (b.blk.getD i.toNat default).stp && ((a.blk.getD i.toNat default).plc.sec == (b.blk.getD i.toNat default).plc.sec && ((a.blk.getD i.toNat default).plc.len == (b.blk.getD i.toNat default).plc.len && (a.blk.getD i.toNat default).plc.sum == (b.blk.getD i.toNat default).plc.sum)))))) then K (B false) else J { sl := [(2, .own [I a.hdr.sec, I a.hdr.len, I a.hdr.sum, L a.blk 7 Ent.d]), (3, .own [I b.hdr.sec, I b.hdr.len, I b.hdr.sum, L b.blk 7 Ent.d]), (5, I (addI .i64 i 1))], h := Heap.empty : St } else K (B true)) := by kernel_rfl
theorem c26 (a : Dir) : Pure PP 26 [a.d, a.d] (B true) := by
  refine pu F26 (by kernel_rfl) (of_eq (n26 a a _) fun _ _ => cond_intro (fun h => by simp at h) fun h => ?_)
  refine lp (fn := Try.f26) (fun i : Nat => i ≤ a.blk.length) (fun i => S26 a a i) (fun i => a.blk.length - i) [2, 3, 5] (by kernel_rfl) (fun i hi => of_eq (n26a a a i _ _) fun hl => cond_intro (fun hlt => ?_) fun hge => ?_) 0 (Nat.zero_le _)
  · have hlt := ltI hlt
    rw [add1 hlt hl]
    refine ⟨⟨by omega, by omega⟩, ⟨by omega, by omega⟩, cond_intro (fun h => by simp at h) fun h => Nx.mk (i + 1) (by omega) (by omega)⟩
  · exact Wk.refl _
theorem F13 : OkF 13 Try.f13 := ⟨by kernel_rfl, by kernel_rfl, by kernel_rfl⟩
def lv13 : List (List Nat × List Nat) := []
noncomputable def n13s (a : List Ent) : List Nat → Nat → Option Ans := scrAt [([1, 0], 4, Ans.pure [{ hdr := { sec := 0, len := 0, sum := 0 : Xt }, blk := a : Dir }.d, { hdr := { sec := 0, len := 0, sum := 0 : Xt }, blk := a : Dir }.d] (B true))]
theorem n13 (a : List Ent) (K : D → Prop) : runS (En Try.f13) (fi Try.f13 K) (n13s a) lv13 200 [.code []] ⟨argSlots 0 [L a 7 Ent.d, L a 7 Ent.d], .empty⟩ =
  (PureW PP 26 [{ hdr := { sec := 0, len := 0, sum := 0 : Xt }, blk := a : Dir }.d, { hdr := { sec := 0, len := 0, sum := 0 : Xt }, blk := a : Dir }.d] [{ hdr := { sec := 0, len := 0, sum := 0 : Xt }, blk := a : Dir }.d, { hdr := { sec := 0, len := 0, sum := 0 : Xt }, blk := a : Dir }.d] (B true) ∧ K (B true)) := by kernel_rfl
theorem c13 (a : List Ent) : Pure PP 13 [L a 7 Ent.d, L a 7 Ent.d] (B true) := pu F13 (by kernel_rfl) (of_eq (n13 a _) ⟨PureW.mk (c26 ⟨⟨0, 0, 0⟩, a⟩), Wk.refl _⟩)
theorem F8 : OkF 8 Try.f8 := ⟨by kernel_rfl, by kernel_rfl, by kernel_rfl⟩
def lv8 : List (List Nat × List Nat) := []
noncomputable def n8s  : List Nat → Nat → Option Ans := scrAt [([1, 1, 0], 2, Ans.pure [{ full := 10, smp := 30, stp := 5 : Pol }.d, { frm := 0, to := 45, lvl := 0, stp := 0, plc := { sec := 0, len := 0, sum := 0 : Xt } : Ent }.d, I 50] (.tup [I (level { full := 10, smp := 30, stp := 5 : Pol } { frm := 0, to := 45, lvl := 0, stp := 0, plc := { sec := 0, len := 0, sum := 0 : Xt } : Ent } 50).fst, I (level { full := 10, smp := 30, stp := 5 : Pol } { frm := 0, to := 45, lvl := 0, stp := 0, plc := { sec := 0, len := 0, sum := 0 : Xt } : Ent } 50).snd])), ([1, 1, 1, 0], 2, Ans.pure [{ full := 10, smp := 30, stp := 5 : Pol }.d, { frm := 0, to := 39, lvl := 0, stp := 0, plc := { sec := 0, len := 0, sum := 0 : Xt } : Ent }.d, I 50] (.tup [I (level { full := 10, smp := 30, stp := 5 : Pol } { frm := 0, to := 39, lvl := 0, stp := 0, plc := { sec := 0, len := 0, sum := 0 : Xt } : Ent } 50).fst, I (level { full := 10, smp := 30, stp := 5 : Pol } { frm := 0, to := 39, lvl := 0, stp := 0, plc := { sec := 0, len := 0, sum := 0 : Xt } : Ent } 50).snd])), ([1, 1, 1, 1, 0], 2, Ans.pure [{ full := 10, smp := 30, stp := 5 : Pol }.d, { frm := 0, to := 19, lvl := 0, stp := 0, plc := { sec := 0, len := 0, sum := 0 : Xt } : Ent }.d, I 50] (.tup [I (level { full := 10, smp := 30, stp := 5 : Pol } { frm := 0, to := 19, lvl := 0, stp := 0, plc := { sec := 0, len := 0, sum := 0 : Xt } : Ent } 50).fst, I (level { full := 10, smp := 30, stp := 5 : Pol } { frm := 0, to := 19, lvl := 0, stp := 0, plc := { sec := 0, len := 0, sum := 0 : Xt } : Ent } 50).snd])),
  ([1, 1, 1, 1, 1, 0], 8, Ans.pure [{ full := 10, smp := 30, stp := 5 : Pol }.d, { hdr := { sec := 4, len := 1, sum := 0 : Xt }, blk := [{ frm := -1, to := 39, lvl := 0, stp := 0, plc := { sec := 5, len := 1, sum := 0 : Xt } : Ent }, { frm := 39, to := 50, lvl := 0, stp := 0, plc := { sec := 6, len := 1, sum := 0 : Xt } : Ent }] : Dir }.d] (L (plan { full := 10, smp := 30, stp := 5 : Pol } { hdr := { sec := 4, len := 1, sum := 0 : Xt }, blk := [{ frm := -1, to := 39, lvl := 0, stp := 0, plc := { sec := 5, len := 1, sum := 0 : Xt } : Ent }, { frm := 39, to := 50, lvl := 0, stp := 0, plc := { sec := 6, len := 1, sum := 0 : Xt } : Ent }] : Dir }) 7 Ent.d)), ([1, 1, 1, 1, 1, 1, 0], 1, Ans.pure [{ full := 10, smp := 30, stp := 5 : Pol }.d] (B (polOk { full := 10, smp := 30, stp := 5 : Pol })))]
theorem n8  (K : D → Prop) : runS (En Try.f8) (fi Try.f8 K) (n8s ) lv8 200 [.code []] ⟨argSlots 0 [], .empty⟩ =
  (True ∧
  PureW PP 9 [{ full := 10, smp := 30, stp := 5 : Pol }.d, { frm := 0, to := 45, lvl := 0, stp := 0, plc := { sec := 0, len := 0, sum := 0 : Xt } : Ent }.d, I 50] [{ full := 10, smp := 30, stp := 5 : Pol }.d, { frm := 0, to := 45, lvl := 0, stp := 0, plc := { sec := 0, len := 0, sum := 0 : Xt } : Ent }.d, I 50] (.tup [I (level { full := 10, smp := 30, stp := 5 : Pol } { frm := 0, to := 45, lvl := 0, stp := 0, plc := { sec := 0, len := 0, sum := 0 : Xt } : Ent } 50).fst, I (level { full := 10, smp := 30, stp := 5 : Pol } { frm := 0, to := 45, lvl := 0, stp := 0, plc := { sec := 0, len := 0, sum := 0 : Xt } : Ent } 50).snd]) ∧
    PureW PP 9 [{ full := 10, smp := 30, stp := 5 : Pol }.d, { frm := 0, to := 39, lvl := 0, stp := 0, plc := { sec := 0, len := 0, sum := 0 : Xt } : Ent }.d, I 50] [{ full := 10, smp := 30, stp := 5 : Pol }.d, { frm := 0, to := 39, lvl := 0, stp := 0, plc := { sec := 0, len := 0, sum := 0 : Xt } : Ent }.d, I 50] (.tup [I (level { full := 10, smp := 30, stp := 5 : Pol } { frm := 0, to := 39, lvl := 0, stp := 0, plc := { sec := 0, len := 0, sum := 0 : Xt } : Ent } 50).fst, I (level { full := 10, smp := 30, stp := 5 : Pol } { frm := 0, to := 39, lvl := 0, stp := 0, plc := { sec := 0, len := 0, sum := 0 : Xt } : Ent } 50).snd]) ∧
      PureW PP 9 [{ full := 10, smp := 30, stp := 5 : Pol }.d, { frm := 0, to := 19, lvl := 0, stp := 0, plc := { sec := 0, len := 0, sum := 0 : Xt } : Ent }.d, I 50] [{ full := 10, smp := 30, stp := 5 : Pol }.d, { frm := 0, to := 19, lvl := 0, stp := 0, plc := { sec := 0, len := 0, sum := 0 : Xt } : Ent }.d, I 50] (.tup [I (level { full := 10, smp := 30, stp := 5 : Pol } { frm := 0, to := 19, lvl := 0, stp := 0, plc := { sec := 0, len := 0, sum := 0 : Xt } : Ent } 50).fst, I (level { full := 10, smp := 30, stp := 5 : Pol } { frm := 0, to := 19, lvl := 0, stp := 0, plc := { sec := 0, len := 0, sum := 0 : Xt } : Ent } 50).snd]) ∧
        PureW PP 14 [.agg [I 10, I 30, I 5], .agg [I 4, I 1, I 0, .list 2 7 (litG [.agg [I (-1), I 39, I 0, I 0, I 5, I 1, I 0], .agg [I 39, I 50, I 0, I 0, I 6, I 1, I 0]]) .full]] [{ full := 10, smp := 30, stp := 5 : Pol }.d, { hdr := { sec := 4, len := 1, sum := 0 : Xt }, blk := [{ frm := -1, to := 39, lvl := 0, stp := 0, plc := { sec := 5, len := 1, sum := 0 : Xt } : Ent }, { frm := 39, to := 50, lvl := 0, stp := 0, plc := { sec := 6, len := 1, sum := 0 : Xt } : Ent }] : Dir }.d] (L (plan { full := 10, smp := 30, stp := 5 : Pol } { hdr := { sec := 4, len := 1, sum := 0 : Xt }, blk := [{ frm := -1, to := 39, lvl := 0, stp := 0, plc := { sec := 5, len := 1, sum := 0 : Xt } : Ent }, { frm := 39, to := 50, lvl := 0, stp := 0, plc := { sec := 6, len := 1, sum := 0 : Xt } : Ent }] : Dir }) 7 Ent.d) ∧ PureW PP 11 [{ full := 10, smp := 30, stp := 5 : Pol }.d] [{ full := 10, smp := 30, stp := 5 : Pol }.d] (B (polOk { full := 10, smp := 30, stp := 5 : Pol })) ∧ ((true = true → 1 ≤ lenM) → (true = true → (0 : Int) ≤ 0 ∧ 0 < (↑1 : Int)) ∧ K (B true))) := by kernel_rfl
theorem c8 : Pure PP 8 [] (B true) := by
  refine pu F8 (by kernel_rfl) (of_eq (n8 _) ⟨trivial, PureW.mk (c9 _ _ _), PureW.mk (c9 _ _ _), PureW.mk (c9 _ _ _), pw (Wks.cons (Wk.refl _) (Wks.cons (Wk.agg ?_) Wks.nil)) (c14 _ _), PureW.mk (c11 _), fun _ => ⟨fun _ => ⟨by decide, by decide⟩, Wk.refl _⟩⟩)
  exact Wks.cons (Wk.refl _) (Wks.cons (Wk.refl _) (Wks.cons (Wk.refl _) (Wks.cons (Wk.litL rfl rfl) Wks.nil)))
theorem F3 : OkF 3 Try.f3 := ⟨by kernel_rfl, by kernel_rfl, by kernel_rfl⟩
def lv3 : List (List Nat × List Nat) := []
noncomputable def n3s (p : Pol) (d : Dir) (e : Ent) (n : Int) : List Nat → Nat → Option Ans := scrAt [([1, 0, 0], 0, Ans.pure [] (B true)), ([1, 1, 1, 0], 3, Ans.pure [p.d, e.d, I n] (.tup [I (level p e n).fst, I (level p e n).snd])), ([1, 1, 1, 1, 0], 3, Ans.pure [p.d, e.d, I n] (.tup [I (level p e n).fst, I (level p e n).snd])), ([1, 1, 1, 1, 1, 0], 1, Ans.pure [p.d] (B (polOk p))), ([1, 1, 1, 1, 1, 0], 3, Ans.pure [p.d] (B (polOk p))), ([1, 1, 1, 1, 1, 0], 18, Ans.pure [p.d, d.d] (L (plan p d) 7 Ent.d)), ([1, 1, 1, 1, 1, 0], 21, Ans.pure [p.d, d.d] (L (plan p d) 7 Ent.d)), ([1, 1, 1, 1, 1, 0], 22, Ans.pure [L (plan p d) 7 Ent.d, L (plan p d) 7 Ent.d] (B true))]
theorem n3 (p : Pol) (d : Dir) (e : Ent) (n : Int) (K : D → Prop) : runS (En Try.f3) (fi Try.f3 K) (n3s p d e n) lv3 200 [.code []] ⟨argSlots 0 [p.d, d.d, e.d, I n], .empty⟩ =
  (PureW PP 8 [] [] (B true) ∧ (d.blk.length ≤ lenM → bif decide ((↑d.blk.length : Int) > 40) then K (B true) else PureW PP 9 [p.d, e.d, I n] [p.d, e.d, I n] (.tup [I (level p e n).fst, I (level p e n).snd]) ∧ PureW PP 10 [p.d, e.d, I n] [p.d, e.d, I n] (.tup [I (level p e n).fst, I (level p e n).snd]) ∧ PureW PP 11 [p.d] [p.d] (B (polOk p)) ∧ PureW PP 12 [p.d] [p.d] (B (polOk p)) ∧ ((bif bif polOk p == polOk p then (level p e n).fst == (level p e n).fst else false then (level p e n).snd == (level p e n).snd else false) = true → PureW PP 14 [p.d, d.d] [p.d, d.d] (L (plan p d) 7 Ent.d)) ∧ ((bif bif polOk p == polOk p then (level p e n).fst == (level p e n).fst else false then (level p e n).snd == (level p e n).snd else false) = true → PureW PP 15 [p.d, d.d] [p.d, d.d] (L (plan p d) 7 Ent.d)) ∧ ((bif bif polOk p == polOk p then (level p e n).fst == (level p e n).fst else false then (level p e n).snd == (level p e n).snd else false) = true → PureW PP 13 [L (plan p d) 7 Ent.d, L (plan p d) 7 Ent.d] [L (plan p d) 7 Ent.d, L (plan p d) 7 Ent.d] (B true)) ∧ K (B (bif bif bif polOk p == polOk p then (level p e n).fst == (level p e n).fst else false then (level p e n).snd == (level p e n).snd else false then true else false)))) := by kernel_rfl
theorem c3 (p : Pol) (d : Dir) (e : Ent) (n : Int) : Pure PP 3 [p.d, d.d, e.d, I n] (B true) := by
  refine pu F3 (by kernel_rfl) (of_eq (n3 p d e n _) ⟨PureW.mk c8, fun _ => cond_intro (fun _ => Wk.refl _) fun _ => ⟨PureW.mk (c9 _ _ _), PureW.mk (c10 _ _ _), PureW.mk (c11 _), PureW.mk (c12 _), fun _ => PureW.mk (c14 _ _), fun _ => PureW.mk (c15 _ _), fun _ => PureW.mk (c13 _), Wk.of_eq (by simp)⟩⟩)
end Go.Proofs.Ytmlhaikblfjghaa.S1
