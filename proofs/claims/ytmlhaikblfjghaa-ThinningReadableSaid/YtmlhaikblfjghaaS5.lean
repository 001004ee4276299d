/- Seat 1: the reference's directories. -/
import Derived.Test.YtmlhaikblfjghaaS4
namespace Go.Proofs.Ytmlhaikblfjghaa.S1
open Go Go.Ab Go.Proofs

theorem F48 : OkF 48 Try.f48 := ⟨by kernel_rfl, by kernel_rfl, by kernel_rfl⟩
def lv48 : List (List Nat × List Nat) := []
noncomputable def n48s (n : Int) (l : List Rg) : List Nat → Nat → Option Ans := scrAt [([1, 0], 2, Ans.pure [I n, L l 2 Rg.d] (.tup [L (marks n l).fst 1 fun b => B b, B (marks n l).snd]))]
theorem n48 (n : Int) (l : List Rg) (K : D → Prop) : runS (En Try.f48) (fi Try.f48 K) (n48s n l) lv48 200 [.code []] ⟨argSlots 0 [I n, L l 2 Rg.d], .empty⟩ =
  (PureW PP 61 [I n, L l 2 Rg.d] [I n, L l 2 Rg.d] (.tup [L (marks n l).fst 1 fun b => B b, B (marks n l).snd]) ∧ K (B (marks n l).snd)) := by kernel_rfl
theorem c48 (n : Int) (l : List Rg) : Pure PP 48 [I n, L l 2 Rg.d] (B (marks n l).2) := pu F48 (by kernel_rfl) (of_eq (n48 n l _) ⟨PureW.mk (c61 _ _), Wk.refl _⟩)

theorem F47 : OkF 47 Try.f47 := ⟨by kernel_rfl, by kernel_rfl, by kernel_rfl⟩
def lv47 : List (List Nat × List Nat) := [([1, 1, 1, 0, 1, 0], [1, 5, 6, 7])]
noncomputable def n47s (d : Dir) : List Nat → Nat → Option Ans := scrAt [([1, 0], 2, Ans.pure [d.hdr.d] (.tup [(fitsR d.hdr).fst.d, B (fitsR d.hdr).snd]))]
theorem n47 (d : Dir) (K : D → Prop) : runS (En Try.f47) (fi Try.f47 K) (n47s d) lv47 200 [.code []] ⟨argSlots 0 [d.d], .empty⟩ =
  (PureW PP 60 [d.hdr.d] [d.hdr.d] (.tup [(fitsR d.hdr).fst.d, B (fitsR d.hdr).snd]) ∧ True ∧ At (En Try.f47) (fi Try.f47 K) [It.code [1, 1, 1, 0, 1, 0], It.blk 0, It.code [1, 1, 1, 1]] { sl := [(1, .own [I d.hdr.sec, I d.hdr.len, I d.hdr.sum, L d.blk 7 Ent.d]), (5, B (fitsR d.hdr).snd), (6, .list 1 2 (litG [.agg [I (fitsR d.hdr).fst.frm, I (fitsR d.hdr).fst.cnt]]) .full), (7, I 0)], h := .empty }) := by kernel_rfl
def S47 (d : Dir) (ok : Bool) (out : List Rg) (i : Int) : St := ⟨[(1, .own [I d.hdr.sec, I d.hdr.len, I d.hdr.sum, L d.blk 7 Ent.d]), (5, B ok), (6, LT out 2 Rg.d 0), (7, I i)], hT .empty out.length⟩
noncomputable def n47as (d : Dir) (i : Int) : List Nat → Nat → Option Ans := scrAt [([1, 1, 1, 0, 1, 0, 0, 1, 0, 0, 0], 6, Ans.pure [(d.blk.getD i.toNat default).plc.d] (.tup [(fitsR (d.blk.getD i.toNat default).plc).fst.d, B (fitsR (d.blk.getD i.toNat default).plc).snd]))]
theorem n47a (d : Dir) (ok : Bool) (out : List Rg) (i : Int) (J : St → Prop) (K : D → Prop) : runS (En Try.f47) (fi Try.f47 K) (n47as d i) lv47 200 [.code [1, 1, 1, 0, 1, 0, 0], stp [1, 5, 6, 7] J, .blk 0, .code [1, 1, 1, 1]] (S47 d ok out i) =
  (d.blk.length ≤ lenM → bif decide (i < (↑d.blk.length : Int)) then (0 ≤ i ∧ i < (↑d.blk.length : Int)) ∧ PureW PP 60 [(d.blk.getD i.toNat default).plc.d] [(d.blk.getD i.toNat default).plc.d] (.tup [(fitsR (d.blk.getD i.toNat default).plc).fst.d, B (fitsR (d.blk.getD i.toNat default).plc).snd]) ∧ True ∧ (upd (fun x => none) 0 (some out.length) 0 = some out.length ∧ (out.length + 1) * 16 ≤ roomM) ∧ J { sl := [(1, .own [I d.hdr.sec, I d.hdr.len, I d.hdr.sum, L d.blk 7 Ent.d]), (5, B (bif ok then (fitsR (d.blk.getD i.toNat default).plc).snd else false)), (6, .list (out.length + 1) 2 (catG out.length (fun i => (out.getD i default).d) (litG [.agg [I (fitsR (d.blk.getD i.toNat default).plc).fst.frm, I (fitsR (d.blk.getD i.toNat default).plc).fst.cnt]])) (.tok 0 2)), (7, I (addI .i64 i 1))], h := { box := fun x => none, nl := 0, hw := upd (upd (fun x => none) 0 (some out.length)) 0 (some (out.length + 1)), nt := 1 } } else K (.tup [.list out.length 2 (fun i => (out.getD i default).d) (.tok 0 2), B ok])) := by kernel_rfl
def regsR (d : Dir) : List Rg := (fitsR d.hdr).1 :: d.blk.map fun e => (fitsR e.plc).1
def okR (d : Dir) : Bool := (d.blk.all fun e => (fitsR e.plc).2) && (fitsR d.hdr).2
theorem regsR_snoc (d : Dir) (i : Nat) (h : i < d.blk.length) : regsR ⟨d.hdr, d.blk.take (i + 1)⟩ = regsR ⟨d.hdr, d.blk.take i⟩ ++ [(fitsR (d.blk.getD i default).plc).1] := by simp [regsR, take_snoc _ _ h]
theorem okR_snoc (d : Dir) (i : Nat) (h : i < d.blk.length) : okR ⟨d.hdr, d.blk.take (i + 1)⟩ = (bif okR ⟨d.hdr, d.blk.take i⟩ then (fitsR (d.blk.getD i default).plc).2 else false) := by
  simp only [okR, take_snoc _ _ h, List.all_append]
  generalize (fitsR d.hdr).2 = a
  generalize (List.all (d.blk.take i) fun e => (fitsR e.plc).2) = b
  cases a <;> cases b <;> simp
theorem c47 (d : Dir) (hm : d.blk.length ≤ 1000000) : Pure PP 47 [d.d] (.tup [L (regsR d) 2 Rg.d, B (okR d)]) := by
  refine pu F47 (by kernel_rfl) (of_eq (n47 d _) ⟨PureW.mk (c60 _), trivial, ?_⟩)
  refine at_le ?_ (StLe.tok1 _ (x := (fitsR d.hdr).1) (enc := Rg.d) 6 rfl)
  refine lp (fn := Try.f47) (fun i : Nat => i ≤ d.blk.length) (fun i => S47 d (okR ⟨d.hdr, d.blk.take i⟩) (regsR ⟨d.hdr, d.blk.take i⟩) i) (fun i => d.blk.length - i) [1, 5, 6, 7] (by kernel_rfl) (fun i hi => of_eq (n47a d _ _ i _ _) fun hl => cond_intro (fun hlt => ?_) fun hge => ?_) 0 (Nat.zero_le _)
  · have hlt := ltI hlt
    rw [add1 hlt hl, Int.toNat_natCast]
    refine ⟨⟨by omega, by omega⟩, PureW.mk (c60 _), trivial, ⟨rfl, ?_⟩, Nx.of (i + 1) (by omega) (by omega) ?_⟩
    · simp [regsR, roomM]; omega
    · unfold S47
      rw [regsR_snoc d i hlt, okR_snoc d i hlt]
      exact (StLe.set 6 rfl Wk.snoc rfl rfl).trans (StLe.heap (by simp [hT, upd_upd, Heap.empty]))
  · have := geI hge
    have hd : d.blk.take i = d.blk := List.take_of_length_le this
    rw [hd]
    exact Wk.tup (Wks.cons Wk.tokL (Wks.refl _))
theorem F30 : OkF 30 Try.f30 := ⟨by kernel_rfl, by kernel_rfl, by kernel_rfl⟩
def lv30 : List (List Nat × List Nat) := [([1, 1, 1, 1, 1, 0, 1, 0], [1, 5, 6])]
noncomputable def n30s (d : Dir) : List Nat → Nat → Option Ans := scrAt [([1, 1, 0], 1, Ans.pure [d.d] (.tup [L (regsR d) 2 Rg.d, B (okR d)])), ([1, 1, 1, 0, 0], 4, Ans.pure [I 1024, L (regsR d) 2 Rg.d] (B (marks 1024 (regsR d)).snd))]
theorem n30 (d : Dir) (K : D → Prop) : runS (En Try.f30) (fi Try.f30 K) (n30s d) lv30 200 [.code []] ⟨argSlots 0 [d.d], .empty⟩ =
  (d.blk.length ≤ lenM → bif decide ((↑d.blk.length : Int) > 32) then K (B false) else PureW PP 47 [d.d] [d.d] (.tup [L (regsR d) 2 Rg.d, B (okR d)]) ∧ ((!!okR d) = true → PureW PP 48 [I 1024, L (regsR d) 2 Rg.d] [I 1024, L (regsR d) 2 Rg.d] (B (marks 1024 (regsR d)).snd)) ∧ bif bif !okR d then true else !(marks 1024 (regsR d)).snd then K (B false) else At (En Try.f30) (fi Try.f30 K) [It.code [1, 1, 1, 1, 1, 0, 1, 0], It.blk 0, It.code [1, 1, 1, 1, 1, 1]] { sl := [(1, .own [I d.hdr.sec, I d.hdr.len, I d.hdr.sum, L d.blk 7 Ent.d]), (5, I (-1)), (6, I 0)], h := .empty }) := by kernel_rfl
def S30 (d : Dir) (at_ i : Int) : St := ⟨[(1, .own [I d.hdr.sec, I d.hdr.len, I d.hdr.sum, L d.blk 7 Ent.d]), (5, I at_), (6, I i)], .empty⟩
noncomputable def n30as  : List Nat → Nat → Option Ans := scrAt []
theorem n30a (d : Dir) (at_ i : Int) (J : St → Prop) (K : D → Prop) : runS (En Try.f30) (fi Try.f30 K) (n30as ) lv30 200 [.code [1, 1, 1, 1, 1, 0, 1, 0, 0], stp [1, 5, 6] J, .blk 0, .code [1, 1, 1, 1, 1, 1]] (S30 d at_ i) =
  (d.blk.length ≤ lenM → bif decide (i < (↑d.blk.length : Int)) then (0 ≤ i ∧ i < (↑d.blk.length : Int)) ∧ True ∧ bif bif bif (d.blk.getD i.toNat default).frm != at_ then true else decide ((d.blk.getD i.toNat default).to ≤ (d.blk.getD i.toNat default).frm) then true else decide ((d.blk.getD i.toNat default).to > 1099511627776) then K (B false) else bif bif !bif bif (d.blk.getD i.toNat default).lvl == 1 then decide ((d.blk.getD i.toNat default).stp ≥ 1) else false then decide ((d.blk.getD i.toNat default).stp ≤ 1099511627776) else false then bif bif (d.blk.getD i.toNat default).lvl != 0 then (d.blk.getD i.toNat default).lvl != 2 else false then true else (d.blk.getD i.toNat default).stp != 0 else false then K (B false) else J { sl := [(1, .own [I d.hdr.sec, I d.hdr.len, I d.hdr.sum, L d.blk 7 Ent.d]), (5, I (d.blk.getD i.toNat default).to), (6, I (addI .i64 i 1))], h := .empty } else K (B true)) := by kernel_rfl


/-- The entries from i on, behind time at_. -/
def entOk (at_ : Int) : List Ent → Bool
  | [] => true
  | x :: r => bif bif bif x.frm != at_ then true else decide (x.to ≤ x.frm) then true else decide (x.to > 1099511627776) then false
    else bif bif !bif bif x.lvl == 1 then decide (x.stp ≥ 1) else false then decide (x.stp ≤ 1099511627776) else false then bif bif x.lvl != 0 then x.lvl != 2 else false then true else x.stp != 0 else false then false else entOk x.to r
noncomputable def dirOkR (d : Dir) : Bool := decide (d.blk.length ≤ 32) && okR d && (marks 1024 (regsR d)).2 && entOk (-1) d.blk

theorem entOk_bad {at_ : Int} {x : Ent} {r : List Ent} (h : (bif bif x.frm != at_ then true else decide (x.to ≤ x.frm) then true else decide (x.to > 1099511627776)) = true) : entOk at_ (x :: r) = false := by
  simp only [entOk, h, cond_true]
theorem drop_cons {α : Type} [Inhabited α] (l : List α) (i : Nat) (h : i < l.length) : l.drop i = l.getD i default :: l.drop (i + 1) := by
  rw [List.drop_eq_getElem_cons h]; simp [List.getD, h]
theorem c30 (d : Dir) : Pure PP 30 [d.d] (B (dirOkR d)) := by
  refine pu F30 (by kernel_rfl) (of_eq (n30 d _) fun hl => cond_intro (fun h => ?_) fun h => ?_)
  · have : ¬ d.blk.length ≤ 32 := by simp at h; omega
    simp only [dirOkR, this, decide_false, Bool.false_and]; exact Wk.refl _
  · have hle : d.blk.length ≤ 32 := by simp at h; omega
    refine ⟨PureW.mk (c47 d (by omega)), fun _ => PureW.mk (c48 _ _), cond_intro (fun h => ?_) fun h => ?_⟩
    · have : (okR d && (marks 1024 (regsR d)).2) = false := by
        cases h1 : okR d <;> cases h2 : (marks 1024 (regsR d)).2 <;> simp_all
      simp only [dirOkR, hle, decide_true, Bool.true_and, this, Bool.false_and]; exact Wk.refl _
    · have : (okR d && (marks 1024 (regsR d)).2) = true := by
        cases h1 : okR d <;> cases h2 : (marks 1024 (regsR d)).2 <;> simp_all
      have hd : dirOkR d = entOk (-1) d.blk := by simp only [dirOkR, hle, decide_true, Bool.true_and, this]
      rw [hd]
      refine lp (fn := Try.f30) (fun x : Nat × Int => x.1 ≤ d.blk.length ∧ entOk (-1) d.blk = entOk x.2 (d.blk.drop x.1)) (fun x => S30 d x.2 x.1) (fun x => d.blk.length - x.1) [1, 5, 6] (by kernel_rfl) (fun x hx => of_eq (n30a d x.2 x.1 _ _) ?_) (0, -1) ⟨Nat.zero_le _, rfl⟩
      obtain ⟨i, at_⟩ := x
      obtain ⟨hi, he⟩ := hx
      simp only at hi he ⊢
      refine fun hl => cond_intro (fun hlt => ?_) fun hge => ?_
      · have hlt := ltI hlt
        rw [add1 hlt hl, Int.toNat_natCast, he, drop_cons _ _ hlt]
        rw [drop_cons _ _ hlt] at he
        generalize d.blk.getD i default = x at he ⊢
        refine ⟨⟨by omega, by omega⟩, trivial, cond_intro (fun h => ?_) fun h => cond_intro (fun h2 => ?_) fun h2 => ?_⟩
        · rw [entOk_bad h]; exact Wk.refl _
        · simp only [entOk, h, h2, cond_true, cond_false]; exact Wk.refl _
        · refine Nx.mk (i + 1, x.to) ⟨hlt, ?_⟩ (by simp only; omega)
          show entOk at_ (x :: d.blk.drop (i + 1)) = entOk x.to (d.blk.drop (i + 1))
          simp only [entOk, h, h2, cond_false]
      · have := geI hge
        rw [he]
        simp only [List.drop_of_length_le this]
        exact Wk.refl _

end Go.Proofs.Ytmlhaikblfjghaa.S1
