/- Seat 1: Readable. -/
import Derived.Test.YtmlhaikblfjghaaS11
namespace Go.Proofs.Ytmlhaikblfjghaa.S1
open Go Go.Ab Go.Proofs
structure Gp where (frm to : Int) deriving Inhabited, DecidableEq
def Gp.d (x : Gp) : D := .agg [I x.frm, I x.to]
structure Pt where (off len : Int) deriving Inhabited, DecidableEq
def Pt.d (x : Pt) : D := .agg [I x.off, I x.len]
structure Sto where (kind wid : Int) deriving Inhabited, DecidableEq
def Sto.d (x : Sto) : D := .agg [I x.kind, I x.wid]
structure Hd where (frm to lvl stp : Int) (quiet : List Bool) (gaps : List Gp) (snap : Pt) (strm : List Pt)
def Hd.d (x : Hd) : D := .agg [I x.frm, I x.to, I x.lvl, I x.stp, L x.quiet 1 (fun b => B b), L x.gaps 2 Gp.d, I x.snap.off, I x.snap.len, L x.strm 2 Pt.d]
instance {x : Gp} : DD x.d := inferInstanceAs (DD (.agg _))
instance {x : Pt} : DD x.d := inferInstanceAs (DD (.agg _))
instance {x : Sto} : DD x.d := inferInstanceAs (DD (.agg _))
instance {x : Hd} : DD x.d := inferInstanceAs (DD (.agg _))
theorem F16 : OkF 16 Try.f16 := ⟨by kernel_rfl, by kernel_rfl, by kernel_rfl⟩
def lv16 : List (List Nat × List Nat) := []
noncomputable def n16s  : List Nat → Nat → Option Ans := scrAt []
theorem n16 (h : Hd) (q : List Sto) (g t : Int) (K : D → Prop) : runS (En Try.f16) (fi Try.f16 K) (n16s ) lv16 200 [.code []] ⟨argSlots 0 [h.d, L q 2 Sto.d, I g, I t], .empty⟩ =
  (((!bif bif decide (t ≤ h.frm) then true else decide (t > h.to) then true else decide (g < 0)) = true → q.length ≤ lenM) → ((!bif bif bif decide (t ≤ h.frm) then true else decide (t > h.to) then true else decide (g < 0) then true else decide (g ≥ (↑q.length : Int))) = true → h.quiet.length ≤ lenM) → bif bif bif bif bif decide (t ≤ h.frm) then true else decide (t > h.to) then true else decide (g < 0) then true else decide (g ≥ (↑q.length : Int)) then true else decide (g ≥ (↑h.quiet.length : Int)) then K (B false) else ((bif h.lvl == 1 then decide (h.stp ≥ 1) else false) = true → 0 ≤ g ∧ g < (↑q.length : Int)) ∧ (0 ≤ g ∧ g < (↑h.quiet.length : Int)) ∧ (((!bif h.quiet.getD g.toNat false then true else h.lvl == 0) && bif bif h.lvl == 1 then decide (h.stp ≥ 1) else false then (q.getD g.toNat default).kind != 3 else false) = true → h.stp ≠ 0) ∧ K (B (bif bif h.quiet.getD g.toNat false then true else h.lvl == 0 then true else bif bif bif h.lvl == 1 then decide (h.stp ≥ 1) else false then (q.getD g.toNat default).kind != 3 else false then t.tmod h.stp == 0 else false))) := by kernel_rfl
theorem F17 : OkF 17 Try.f17 := ⟨by kernel_rfl, by kernel_rfl, by kernel_rfl⟩
def lv17 : List (List Nat × List Nat) := []
noncomputable def n17s  : List Nat → Nat → Option Ans := scrAt []
theorem n17 (h : Hd) (q : List Sto) (g t : Int) (K : D → Prop) : runS (En Try.f17) (fi Try.f17 K) (n17s ) lv17 200 [.code []] ⟨argSlots 0 [h.d, L q 2 Sto.d, I g, I t], .empty⟩ =
  (((!bif bif decide (t ≤ h.frm) then true else decide (t > h.to) then true else decide (g < 0)) = true → q.length ≤ lenM) → ((!bif bif bif decide (t ≤ h.frm) then true else decide (t > h.to) then true else decide (g < 0) then true else decide (g ≥ (↑q.length : Int))) = true → h.quiet.length ≤ lenM) → bif bif bif bif bif decide (t ≤ h.frm) then true else decide (t > h.to) then true else decide (g < 0) then true else decide (g ≥ (↑q.length : Int)) then true else decide (g ≥ (↑h.quiet.length : Int)) then K (B false) else (0 ≤ g ∧ g < (↑h.quiet.length : Int)) ∧ ((!bif h.quiet.getD g.toNat false then true else h.lvl == 0) = true → 0 ≤ g ∧ g < (↑q.length : Int)) ∧ (((!bif h.quiet.getD g.toNat false then true else h.lvl == 0) && bif bif (q.getD g.toNat default).kind != 3 then h.lvl == 1 else false then decide (h.stp ≥ 1) else false) = true → h.stp ≠ 0) ∧ K (B (bif bif h.quiet.getD g.toNat false then true else h.lvl == 0 then true else bif bif bif (q.getD g.toNat default).kind != 3 then h.lvl == 1 else false then decide (h.stp ≥ 1) else false then t.tmod h.stp == 0 else false))) := by kernel_rfl

def rdOut (h : Hd) (q : List Sto) (g t : Int) : Bool := bif bif bif bif decide (t ≤ h.frm) then true else decide (t > h.to) then true else decide (g < 0) then true else decide (g ≥ (q.length : Int)) then true else decide (g ≥ (h.quiet.length : Int))
def rd (h : Hd) (q : List Sto) (g t : Int) : Bool := bif rdOut h q g t then false else bif bif h.quiet.getD g.toNat false then true else h.lvl == 0 then true
  else bif bif bif h.lvl == 1 then decide (h.stp ≥ 1) else false then (q.getD g.toNat default).kind != 3 else false then t.tmod h.stp == 0 else false
theorem rdIn {h : Hd} {q : List Sto} {g t : Int} (h1 : rdOut h q g t = false) : 0 ≤ g ∧ g < q.length ∧ g < h.quiet.length := by
  unfold rdOut at h1
  simp at h1
  omega
theorem c16 (h : Hd) (q : List Sto) (g t : Int) : Pure PP 16 [h.d, L q 2 Sto.d, I g, I t] (B (rd h q g t)) := by
  refine pu F16 (by kernel_rfl) (of_eq (n16 h q g t _) fun _ _ => cond_intro (fun h1 => ?_) fun h1 => ?_)
  · have h2 : rdOut h q g t = true := h1
    simp only [rd, h2, cond_true]; exact Wk.refl _
  · have h2 : rdOut h q g t = false := h1
    have h3 := rdIn h2
    refine ⟨fun _ => ⟨h3.1, h3.2.1⟩, ⟨h3.1, h3.2.2⟩, fun hc => ?_, by simp only [rd, h2, cond_false]; exact Wk.refl _⟩
    simp at hc; omega
theorem c17 (h : Hd) (q : List Sto) (g t : Int) : Pure PP 17 [h.d, L q 2 Sto.d, I g, I t] (B (rd h q g t)) := by
  refine pu F17 (by kernel_rfl) (of_eq (n17 h q g t _) fun _ _ => cond_intro (fun h1 => ?_) fun h1 => ?_)
  · have h2 : rdOut h q g t = true := h1
    simp only [rd, h2, cond_true]; exact Wk.refl _
  · have h2 : rdOut h q g t = false := h1
    have h3 := rdIn h2
    refine ⟨⟨h3.1, h3.2.2⟩, fun _ => ⟨h3.1, h3.2.1⟩, fun hc => ?_, Wk.of_eq ?_⟩
    · simp at hc; omega
    · simp only [rd, h2, cond_false]
      have : (bif bif (q.getD g.toNat default).kind != 3 then h.lvl == 1 else false then decide (h.stp ≥ 1) else false) = (bif bif h.lvl == 1 then decide (h.stp ≥ 1) else false then (q.getD g.toNat default).kind != 3 else false) := by
        cases (q.getD g.toNat default).kind != 3 <;> cases h.lvl == 1 <;> cases decide (h.stp ≥ 1) <;> rfl
      rw [this]
theorem F4 : OkF 4 Try.f4 := ⟨by kernel_rfl, by kernel_rfl, by kernel_rfl⟩
def lv4 : List (List Nat × List Nat) := []
noncomputable def n4s (h : Hd) (q : List Sto) (g : Int) (t : Int) : List Nat → Nat → Option Ans := scrAt [([1, 0, 0], 0, Ans.pure [] (B true)), ([1, 1, 1, 0], 4, Ans.pure [h.d, L q 2 Sto.d, I g, I t] (B (rd h q g t))), ([1, 1, 1, 0], 9, Ans.pure [h.d, L q 2 Sto.d, I g, I t] (B (rd h q g t)))]
theorem n4 (h : Hd) (q : List Sto) (g t : Int) (K : D → Prop) : runS (En Try.f4) (fi Try.f4 K) (n4s h q g t) lv4 200 [.code []] ⟨argSlots 0 [h.d, L q 2 Sto.d, I g, I t], .empty⟩ =
  (PureW PP 8 [] [] (B true) ∧ (q.length ≤ lenM → ((!decide ((↑q.length : Int) > 20)) = true → h.quiet.length ≤ lenM) → bif bif decide ((↑q.length : Int) > 20) then true else decide ((↑h.quiet.length : Int) > 20) then K (B true) else PureW PP 16 [h.d, L q 2 Sto.d, I g, I t] [h.d, L q 2 Sto.d, I g, I t] (B (rd h q g t)) ∧ PureW PP 17 [h.d, L q 2 Sto.d, I g, I t] [h.d, L q 2 Sto.d, I g, I t] (B (rd h q g t)) ∧ K (B (rd h q g t == rd h q g t)))) := by kernel_rfl
theorem c4 (h : Hd) (q : List Sto) (g t : Int) : Pure PP 4 [h.d, L q 2 Sto.d, I g, I t] (B true) :=
  pu F4 (by kernel_rfl) (of_eq (n4 h q g t _) ⟨PureW.mk c8, fun _ _ => cond_intro (fun _ => Wk.refl _) fun _ => ⟨PureW.mk (c16 _ _ _ _), PureW.mk (c17 _ _ _ _), Wk.of_eq (by simp)⟩⟩)
end Go.Proofs.Ytmlhaikblfjghaa.S1
