/- Seat 1: small functions. -/
import Derived.Test.YtmlhaikblfjghaaS1
namespace Go.Proofs.Ytmlhaikblfjghaa.S1
open Go Go.Ab Go.Proofs

def sect (n : Int) : Int := bif decide (n < 1) then 0 else addI .i64 (quoI .i64 (subI .i64 n 1) 64) 1
theorem F57 : OkF 57 Try.f57 := ⟨by kernel_rfl, by kernel_rfl, by kernel_rfl⟩
def lv57 : List (List Nat × List Nat) := []
def n57s  : List Nat → Nat → Option Ans := scrAt []
theorem n57 (n : Int) (K : D → Prop) : runS (En Try.f57) (fi Try.f57 K) (n57s ) lv57 200 [.code []] ⟨argSlots 0 [I n], .empty⟩ =
  (bif decide (n < 1) then K (I 0) else (64 : Int) ≠ 0 ∧ K (I (addI .i64 (quoI .i64 (subI .i64 n 1) 64) 1))) := by kernel_rfl
theorem c57 (n : Int) : Pure PP 57 [I n] (I (sect n)) := pu F57 (by kernel_rfl) (of_eq (n57 n _) (wkI (fun h => h) (fun h => ⟨by decide, h⟩) (Wk.refl _)))
theorem F66 : OkF 66 Try.f66 := ⟨by kernel_rfl, by kernel_rfl, by kernel_rfl⟩
def lv66 : List (List Nat × List Nat) := []
def n66s  : List Nat → Nat → Option Ans := scrAt []
theorem n66 (n : Int) (K : D → Prop) : runS (En Try.f66) (fi Try.f66 K) (n66s ) lv66 200 [.code []] ⟨argSlots 0 [I n], .empty⟩ =
  (bif decide (n < 1) then K (I 0) else (64 : Int) ≠ 0 ∧ K (I (addI .i64 (quoI .i64 (subI .i64 n 1) 64) 1))) := by kernel_rfl
theorem c66 (n : Int) : Pure PP 66 [I n] (I (sect n)) := pu F66 (by kernel_rfl) (of_eq (n66 n _) (wkI (fun h => h) (fun h => ⟨by decide, h⟩) (Wk.refl _)))

def polOk (p : Pol) : Bool :=
  bif (bif (bif (bif bif decide (p.full < 0) then true else decide (p.full > 1099511627776) then true else decide (p.smp < 0)) then true else decide (p.smp > 1099511627776)) then true
    else bif bif p.full != 0 then p.smp != 0 else false then decide (p.full ≥ p.smp) else false) then false
  else bif p.full == 0 then p.stp == 0 else bif decide (p.stp ≥ 1) then decide (p.stp ≤ 1099511627776) else false
theorem F11 : OkF 11 Try.f11 := ⟨by kernel_rfl, by kernel_rfl, by kernel_rfl⟩
def lv11 : List (List Nat × List Nat) := []
def n11s  : List Nat → Nat → Option Ans := scrAt []
theorem n11 (p : Pol) (K : D → Prop) : runS (En Try.f11) (fi Try.f11 K) (n11s ) lv11 200 [.code []] ⟨argSlots 0 [p.d], .empty⟩ =
  (bif bif bif bif bif decide (p.full < 0) then true else decide (p.full > 1099511627776) then true else decide (p.smp < 0) then true else decide (p.smp > 1099511627776) then true else bif bif p.full != 0 then p.smp != 0 else false then decide (p.full ≥ p.smp) else false then K (B false) else bif p.full == 0 then K (B (p.stp == 0)) else K (B (bif decide (p.stp ≥ 1) then decide (p.stp ≤ 1099511627776) else false))) := by kernel_rfl
theorem c11 (p : Pol) : Pure PP 11 [p.d] (B (polOk p)) := pu F11 (by kernel_rfl) (of_eq (n11 p _) (wkB (fun h => h) (wkB (fun h => h) fun h => h) (Wk.refl _)))

def polOkR (p : Pol) : Bool :=
  bif (bif bif bif decide (p.full < 0) then true else decide (p.full > 1099511627776) then true else decide (p.smp < 0) then true else decide (p.smp > 1099511627776)) then false
  else bif p.full == 0 then p.stp == 0 else bif bif decide (p.stp ≥ 1) then decide (p.stp ≤ 1099511627776) else false then bif p.smp == 0 then true else decide (p.full < p.smp) else false
theorem F12 : OkF 12 Try.f12 := ⟨by kernel_rfl, by kernel_rfl, by kernel_rfl⟩
def lv12 : List (List Nat × List Nat) := []
def n12s  : List Nat → Nat → Option Ans := scrAt []
theorem n12 (p : Pol) (K : D → Prop) : runS (En Try.f12) (fi Try.f12 K) (n12s ) lv12 200 [.code []] ⟨argSlots 0 [p.d], .empty⟩ =
  (bif bif bif bif decide (p.full < 0) then true else decide (p.full > 1099511627776) then true else decide (p.smp < 0) then true else decide (p.smp > 1099511627776) then K (B false) else bif p.full == 0 then K (B (p.stp == 0)) else K (B (bif bif decide (p.stp ≥ 1) then decide (p.stp ≤ 1099511627776) else false then bif p.smp == 0 then true else decide (p.full < p.smp) else false))) := by kernel_rfl
theorem polOkR_eq (p : Pol) : polOkR p = polOk p := by
  rw [Bool.eq_iff_iff]
  by_cases h : p.full = 0 <;> simp [polOkR, polOk, h] <;> omega
theorem c12 (p : Pol) : Pure PP 12 [p.d] (B (polOk p)) := by
  rw [← polOkR_eq]
  exact pu F12 (by kernel_rfl) (of_eq (n12 p _) (wkB (fun h => h) (wkB (fun h => h) fun h => h) (Wk.refl _)))

def fits (x : Xt) : Bool := bif bif bif bif bif bif decide (x.len ≥ 1) then decide (x.len ≤ 16384) else false then decide (x.sum ≥ 0) else false then decide (x.sum < 4294967296) else false then decide (x.sec ≥ 4) else false then decide (x.sec < 1024) else false then decide (sect x.len ≤ subI .i64 1024 x.sec) else false
theorem F43 : OkF 43 Try.f43 := ⟨by kernel_rfl, by kernel_rfl, by kernel_rfl⟩
def lv43 : List (List Nat × List Nat) := []
def n43s (x : Xt) : List Nat → Nat → Option Ans := scrAt [([1, 0], 31, Ans.pure [I x.len] (I (sect x.len)))]
theorem n43 (x : Xt) (K : D → Prop) : runS (En Try.f43) (fi Try.f43 K) (n43s x) lv43 200 [.code []] ⟨argSlots 0 [x.d], .empty⟩ =
  (((bif bif bif bif bif decide (x.len ≥ 1) then decide (x.len ≤ 16384) else false then decide (x.sum ≥ 0) else false then decide (x.sum < 4294967296) else false then decide (x.sec ≥ 4) else false then decide (x.sec < 1024) else false) = true → PureW PP 57 [I x.len] [I x.len] (I (sect x.len))) ∧ K (B (bif bif bif bif bif bif decide (x.len ≥ 1) then decide (x.len ≤ 16384) else false then decide (x.sum ≥ 0) else false then decide (x.sum < 4294967296) else false then decide (x.sec ≥ 4) else false then decide (x.sec < 1024) else false then decide (sect x.len ≤ subI .i64 1024 x.sec) else false))) := by kernel_rfl
theorem c43 (x : Xt) : Pure PP 43 [x.d] (B (fits x)) := pu F43 (by kernel_rfl) (of_eq (n43 x _) ⟨fun _ => PureW.mk (c57 _), Wk.refl _⟩)

def regOf (x : Xt) : Rg := ⟨x.sec, sect x.len⟩
theorem F59 : OkF 59 Try.f59 := ⟨by kernel_rfl, by kernel_rfl, by kernel_rfl⟩
def lv59 : List (List Nat × List Nat) := []
def n59s (x : Xt) : List Nat → Nat → Option Ans := scrAt [([1, 0], 4, Ans.pure [I x.len] (I (sect x.len)))]
theorem n59 (x : Xt) (K : D → Prop) : runS (En Try.f59) (fi Try.f59 K) (n59s x) lv59 200 [.code []] ⟨argSlots 0 [x.d], .empty⟩ =
  (PureW PP 57 [I x.len] [I x.len] (I (sect x.len)) ∧ True ∧ K (.agg [I x.sec, I (sect x.len)])) := by kernel_rfl
theorem c59 (x : Xt) : Pure PP 59 [x.d] (regOf x).d := pu F59 (by kernel_rfl) (of_eq (n59 x _) ⟨PureW.mk (c57 _), trivial, Wk.refl _⟩)

def fitsR (x : Xt) : Rg × Bool :=
  bif bif bif bif bif bif decide (x.len < 1) then true else decide (x.len > 16384) then true else decide (x.sum < 0) then true else decide (x.sum ≥ 4294967296) then true else decide (x.sec < 4) then true else decide (x.sec > 1024) then (⟨0, 0⟩, false)
  else (regOf x, decide (addI .i64 x.sec (sect x.len) ≤ 1024))
theorem F60 : OkF 60 Try.f60 := ⟨by kernel_rfl, by kernel_rfl, by kernel_rfl⟩
def lv60 : List (List Nat × List Nat) := []
def n60s (x : Xt) : List Nat → Nat → Option Ans := scrAt [([1, 1, 0], 2, Ans.pure [I x.len] (I (sect x.len)))]
theorem n60 (x : Xt) (K : D → Prop) : runS (En Try.f60) (fi Try.f60 K) (n60s x) lv60 200 [.code []] ⟨argSlots 0 [x.d], .empty⟩ =
  (bif bif bif bif bif bif decide (x.len < 1) then true else decide (x.len > 16384) then true else decide (x.sum < 0) then true else decide (x.sum ≥ 4294967296) then true else decide (x.sec < 4) then true else decide (x.sec > 1024) then True ∧ K (.tup [.agg [I 0, I 0], B false]) else PureW PP 66 [I x.len] [I x.len] (I (sect x.len)) ∧ True ∧ K (.tup [.agg [I x.sec, I (sect x.len)], B (decide (addI .i64 x.sec (sect x.len) ≤ 1024))])) := by kernel_rfl
theorem c60 (x : Xt) : Pure PP 60 [x.d] (.tup [(fitsR x).1.d, B (fitsR x).2]) := pu F60 (by kernel_rfl) (of_eq (n60 x _) (cond_intro (fun h => ⟨trivial, by simp only [fitsR, h, cond_true, Rg.d, Wk.refl]⟩) (fun h => ⟨PureW.mk (c66 _), trivial, by simp only [fitsR, h, cond_false, regOf, Rg.d, Wk.refl]⟩)))

def level (p : Pol) (e : Ent) (n : Int) : Int × Int :=
  bif bif bif bif bif !polOk p then true else decide (n < -1) then true else decide (n > 1099511627776) then true else decide (e.to < -1) then true else decide (e.to > 1099511627776) then (0, 0)
  else bif bif p.smp != 0 then decide (subI .i64 n e.to > p.smp) else false then (2, 0)
  else bif bif p.full != 0 then decide (subI .i64 n e.to > p.full) else false then (1, p.stp) else (0, 0)
def levelR (p : Pol) (e : Ent) (n : Int) : Int × Int :=
  bif bif bif bif bif !polOk p then true else decide (n < -1) then true else decide (n > 1099511627776) then true else decide (e.to < -1) then true else decide (e.to > 1099511627776) then (0, 0)
  else bif bif decide (p.smp > 0) then decide (subI .i64 n e.to > p.smp) else false then (2, 0)
  else bif bif decide (p.full > 0) then decide (subI .i64 n e.to > p.full) else false then (1, p.stp) else (0, 0)
theorem levelR_eq (p : Pol) (e : Ent) (n : Int) : levelR p e n = level p e n := by
  unfold level levelR
  cases h : polOk p with
  | false => rfl
  | true =>
    have h1 : 0 ≤ p.full ∧ 0 ≤ p.smp := by
      unfold polOk at h
      simp at h
      omega
    have h2 : decide (p.smp > 0) = (p.smp != 0) := by rw [Bool.eq_iff_iff]; simp; omega
    have h3 : decide (p.full > 0) = (p.full != 0) := by rw [Bool.eq_iff_iff]; simp; omega
    rw [h2, h3]
theorem F9 : OkF 9 Try.f9 := ⟨by kernel_rfl, by kernel_rfl, by kernel_rfl⟩
def lv9 : List (List Nat × List Nat) := []
def n9s (p : Pol) : List Nat → Nat → Option Ans := scrAt [([1, 0, 0], 1, Ans.pure [p.d] (B (polOk p)))]
theorem n9 (p : Pol) (e : Ent) (n : Int) (K : D → Prop) : runS (En Try.f9) (fi Try.f9 K) (n9s p) lv9 200 [.code []] ⟨argSlots 0 [p.d, e.d, I n], .empty⟩ =
  (PureW PP 11 [p.d] [p.d] (B (polOk p)) ∧ bif bif bif bif bif !polOk p then true else decide (n < -1) then true else decide (n > 1099511627776) then true else decide (e.to < -1) then true else decide (e.to > 1099511627776) then K (.tup [I 0, I 0]) else bif bif p.smp != 0 then decide (subI .i64 n e.to > p.smp) else false then K (.tup [I 2, I 0]) else bif bif p.full != 0 then decide (subI .i64 n e.to > p.full) else false then K (.tup [I 1, I p.stp]) else K (.tup [I 0, I 0])) := by kernel_rfl
theorem c9 (p : Pol) (e : Ent) (n : Int) : Pure PP 9 [p.d, e.d, I n] (.tup [I (level p e n).1, I (level p e n).2]) :=
  pu F9 (by kernel_rfl) (of_eq (n9 p e n _) ⟨PureW.mk (c11 _), by (repeat' (refine cond_intro (fun h => ?_) fun h => ?_)) <;> simp only [level, *, cond_true, cond_false, Wk.refl]⟩)
theorem F10 : OkF 10 Try.f10 := ⟨by kernel_rfl, by kernel_rfl, by kernel_rfl⟩
def lv10 : List (List Nat × List Nat) := []
def n10s (p : Pol) : List Nat → Nat → Option Ans := scrAt [([1, 0, 0], 1, Ans.pure [p.d] (B (polOk p)))]
theorem n10 (p : Pol) (e : Ent) (n : Int) (K : D → Prop) : runS (En Try.f10) (fi Try.f10 K) (n10s p) lv10 200 [.code []] ⟨argSlots 0 [p.d, e.d, I n], .empty⟩ =
  (PureW PP 12 [p.d] [p.d] (B (polOk p)) ∧ bif bif bif bif bif !polOk p then true else decide (n < -1) then true else decide (n > 1099511627776) then true else decide (e.to < -1) then true else decide (e.to > 1099511627776) then K (.tup [I 0, I 0]) else bif bif decide (p.smp > 0) then decide (subI .i64 n e.to > p.smp) else false then K (.tup [I 2, I 0]) else bif bif decide (p.full > 0) then decide (subI .i64 n e.to > p.full) else false then K (.tup [I 1, I p.stp]) else K (.tup [I 0, I 0])) := by kernel_rfl
theorem c10 (p : Pol) (e : Ent) (n : Int) : Pure PP 10 [p.d, e.d, I n] (.tup [I (level p e n).1, I (level p e n).2]) := by
  rw [← levelR_eq]
  exact pu F10 (by kernel_rfl) (of_eq (n10 p e n _) ⟨PureW.mk (c12 _), by (repeat' (refine cond_intro (fun h => ?_) fun h => ?_)) <;> simp only [levelR, *, cond_true, cond_false, Wk.refl]⟩)

theorem sub64 {a b : Int} (h : -9223372036854775808 ≤ a - b) (k : a - b ≤ 9223372036854775807) : subI .i64 a b = a - b := IntWalk.i64_in _ ⟨h, k⟩
theorem add64 {a b : Int} (h : -9223372036854775808 ≤ a + b) (k : a + b ≤ 9223372036854775807) : addI .i64 a b = a + b := IntWalk.i64_in _ ⟨h, k⟩

def endOf (d : Dir) : Int := bif (↑d.blk.length : Int) == 0 then -1 else (d.blk.getD (subI .i64 (↑d.blk.length : Int) 1).toNat default).to
theorem F46 : OkF 46 Try.f46 := ⟨by kernel_rfl, by kernel_rfl, by kernel_rfl⟩
def lv46 : List (List Nat × List Nat) := []
def n46s  : List Nat → Nat → Option Ans := scrAt []
theorem n46 (d : Dir) (K : D → Prop) : runS (En Try.f46) (fi Try.f46 K) (n46s ) lv46 200 [.code []] ⟨argSlots 0 [d.d], .empty⟩ =
  (d.blk.length ≤ lenM → bif (↑d.blk.length : Int) == 0 then K (I (-1)) else d.blk.length ≤ lenM → (0 ≤ subI .i64 (↑d.blk.length : Int) 1 ∧ subI .i64 (↑d.blk.length : Int) 1 < (↑d.blk.length : Int)) ∧ K (I (d.blk.getD (subI .i64 (↑d.blk.length : Int) 1).toNat default).to)) := by kernel_rfl
theorem lastIn {n : Nat} (h : n ≤ lenM) (h0 : ((n : Int) == 0) = false) : 0 ≤ subI .i64 (n : Int) 1 ∧ subI .i64 (n : Int) 1 < n := by
  unfold lenM at h
  have : (n : Int) ≠ 0 := by simpa using h0
  rw [sub64 (by omega) (by omega)]; omega
theorem wkIf {b : Bool} {x y : Int} {v : D} {p q : Prop} (h1 : b = true → Wk (I x) v → p) (h2 : b = false → Wk (I y) v → q) (h : Wk (I (bif b then x else y)) v) : (bif b then p else q) := by
  cases b
  · exact h2 rfl h
  · exact h1 rfl h
theorem c46 (d : Dir) : Pure PP 46 [d.d] (I (endOf d)) := pu F46 (by kernel_rfl) (of_eq (n46 d _) fun hl => wkIf (fun _ h => h) (fun h0 h _ => ⟨lastIn hl h0, h⟩) (Wk.refl _))
theorem F31 : OkF 31 Try.f31 := ⟨by kernel_rfl, by kernel_rfl, by kernel_rfl⟩
def lv31 : List (List Nat × List Nat) := []
def n31s  : List Nat → Nat → Option Ans := scrAt []
theorem n31 (d : Dir) (K : D → Prop) : runS (En Try.f31) (fi Try.f31 K) (n31s ) lv31 200 [.code []] ⟨argSlots 0 [d.d], .empty⟩ =
  (d.blk.length ≤ lenM → bif (↑d.blk.length : Int) == 0 then K (I (-1)) else d.blk.length ≤ lenM → (0 ≤ subI .i64 (↑d.blk.length : Int) 1 ∧ subI .i64 (↑d.blk.length : Int) 1 < (↑d.blk.length : Int)) ∧ K (I (d.blk.getD (subI .i64 (↑d.blk.length : Int) 1).toNat default).to)) := by kernel_rfl
theorem c31 (d : Dir) : Pure PP 31 [d.d] (I (endOf d)) := pu F31 (by kernel_rfl) (of_eq (n31 d _) fun hl => wkIf (fun _ h => h) (fun h0 h _ => ⟨lastIn hl h0, h⟩) (Wk.refl _))

end Go.Proofs.Ytmlhaikblfjghaa.S1
