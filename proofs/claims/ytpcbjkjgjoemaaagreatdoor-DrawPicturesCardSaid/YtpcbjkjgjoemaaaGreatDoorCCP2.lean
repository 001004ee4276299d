/- Seat 2: small waves. -/
import Derived.Test.YtpcbjkjgjoemaaaGreatDoorCCP1
import Derived.Test.YtpcbjkjgjoemaaaGreatDoorRows
namespace Go.Proofs.YtpcbjkjgjoemaaaGreatDoor.S1
open Go Go.Ab Go.Proofs
def prevX {α : Type} [Inhabited α] (l : List α) : Nat → Option α
  | 0 => none
  | i + 1 => some (l.getD i default)
theorem all_drop {α : Type} [Inhabited α] {f : α → Bool} {l : List α} {i : Nat} (h : i < l.length) : (l.drop i).all f = (f (l.getD i default) && (l.drop (i + 1)).all f) := by
  rw [drop_cons _ _ h, List.all_cons]
def byteBad (c : UInt8) : Bool := bif bif bif (c.toNat : Int) != 48 then (c.toNat : Int) != 49 else false then (c.toNat : Int) != 120 else false then (c.toNat : Int) != 122 else false
def vlOk (q : Sig) (v : Str) : Bool := bif q.kind == 3 then v == [] else bif q.kind == 0 then v.all (fun c => !byteBad c) && ((v.length : Int) == q.width) else decide ((v.length : Int) ≤ 64)
theorem F68 : OkF 68 Tryz.f68 := ⟨by kernel_rfl, by kernel_rfl, by kernel_rfl⟩
def lv68 : List (List Nat × List Nat) := [([1, 0, 1, 0, 1, 1, 1, 0, 0, 1, 0], [1, 2, 5])]
noncomputable def nvls  : List Nat → Nat → Option Ans := scrAt []
theorem nvl [Lay] (q : Sig) (v : Str) (K : D → Prop) : runS (En Tryz.f68) (fi Tryz.f68 K) (nvls ) lv68 200 [.code []] ⟨argSlots 0 [q.d, .str v], .empty⟩ =
  (bif q.kind == 3 then K (B (v == { data := #[] : ByteArray }.data.toList)) else bif q.kind == 0 then At (En Tryz.f68) (fi Tryz.f68 K) [It.code [1, 0, 1, 0, 1, 1, 1, 0, 0, 1, 0], It.blk 1, It.code [1, 0, 1, 0, 1, 1, 1, 0, 1], It.blk 0, It.code [1, 1]] { sl := [(1, .str v), (2, .own [I q.kind, I q.width, L q.chg 2 Chg.d]), (5, I 0)], h := Heap.empty : St } else List.length v ≤ strM → K (B (decide ((↑(List.length v) : Int) ≤ 64)))) := by kernel_rfl
def Svl (q : Sig) (v : Str) (i : Int) : St := ⟨[(1, .str v), (2, .own [I q.kind, I q.width, L q.chg 2 Chg.d]), (5, I i)], .empty⟩
noncomputable def nvlas  : List Nat → Nat → Option Ans := scrAt []
theorem nvla [Lay] (q : Sig) (v : Str) (i : Int) (J : St → Prop) (K : D → Prop) : runS (En Tryz.f68) (fi Tryz.f68 K) (nvlas ) lv68 200 [.code [1, 0, 1, 0, 1, 1, 1, 0, 0, 1, 0, 0], stp [1, 2, 5] J, .blk 1, .code [1, 0, 1, 0, 1, 1, 1, 0, 1], .blk 0, .code [1, 1]] (Svl q v i) =
  (List.length v ≤ strM → bif decide (i < (↑(List.length v) : Int)) then (0 ≤ i ∧ i < (↑(List.length v) : Int)) ∧ (((↑(List.getD v i.toNat 0).toNat : Int) != 48) = true → 0 ≤ i ∧ i < (↑(List.length v) : Int)) ∧ ((bif (↑(List.getD v i.toNat 0).toNat : Int) != 48 then (↑(List.getD v i.toNat 0).toNat : Int) != 49 else false) = true → 0 ≤ i ∧ i < (↑(List.length v) : Int)) ∧ ((bif bif (↑(List.getD v i.toNat 0).toNat : Int) != 48 then (↑(List.getD v i.toNat 0).toNat : Int) != 49 else false then (↑(List.getD v i.toNat 0).toNat : Int) != 120 else false) = true → 0 ≤ i ∧ i < (↑(List.length v) : Int)) ∧ bif bif bif bif (↑(List.getD v i.toNat 0).toNat : Int) != 48 then (↑(List.getD v i.toNat 0).toNat : Int) != 49 else false then (↑(List.getD v i.toNat 0).toNat : Int) != 120 else false then (↑(List.getD v i.toNat 0).toNat : Int) != 122 else false then K (B false) else J { sl := [(1, .str v), (2, .own [I q.kind, I q.width, L q.chg 2 Chg.d]), (5, I (addI .i64 i 1))], h := Heap.empty : St } else List.length v ≤ strM → K (B ((↑(List.length v) : Int) == q.width))) := by kernel_rfl
theorem c68 [Lay] (q : Sig) (v : Str) : Pure PP 68 [q.d, .str v] (B (vlOk q v)) := by
  refine pu F68 (by kernel_rfl) (of_eq (nvl q v _) (cond_intro (fun h => ?_) fun h => cond_intro (fun h0 => ?_) fun h0 => fun _ => ?_)) <;> unfold vlOk <;> rw [h]
  · exact Wk.refl _
  · rw [h0]
    simp only [cond_true, cond_false]
    refine lp (fn := Tryz.f68) (fun i : Nat => i ≤ v.length ∧ v.all (fun c => !byteBad c) = (v.drop i).all (fun c => !byteBad c)) (fun i => Svl q v i) (fun i => v.length - i) [1, 2, 5] (by kernel_rfl) (fun i hi => of_eq (nvla q v i _ _) fun hl => cond_intro (fun hlt => ?_) fun hge => fun _ => ?_) 0 ⟨Nat.zero_le _, rfl⟩
    · have hlt := ltI hlt
      obtain ⟨_, he⟩ := hi
      rw [add1 hlt hl, Int.toNat_natCast]
      have hin : (0 : Int) ≤ (i : Int) ∧ (i : Int) < (v.length : Int) := ⟨by omega, by omega⟩
      rw [all_drop hlt, show (v.getD i default : UInt8) = v.getD i 0 from rfl] at he
      refine ⟨hin, fun _ => hin, fun _ => hin, fun _ => hin, cond_intro (fun h => ?_) fun h => ?_⟩
      · have h : byteBad (v.getD i 0) = true := h
        rw [he, h]; exact Wk.refl _
      · have h : byteBad (v.getD i 0) = false := h
        exact Nx.mk (i + 1) ⟨hlt, by rw [he, h]; rfl⟩ (by omega)
    · rw [hi.2, List.drop_of_length_le (geI hge)]
      exact Wk.refl _
  · rw [h0]; exact Wk.refl _

def chgBad (w : Wv) (q : Sig) (p : Option Chg) (b : Str) (x : Chg) : Bool :=
  bif bif bif bif decide (x.time < 0) then true else decide (x.time > w.fin) then true else match p with | none => false | some y => decide (y.time ≥ x.time) then true else !vlOk q x.val then true else bif q.kind != 3 then x.val == b else false
def chgOk (w : Wv) (q : Sig) : Option Chg → Str → List Chg → Bool
  | _, _, [] => true
  | p, b, x :: r => !chgBad w q p b x && chgOk w q (some x) x.val r
def sigBad (q : Sig) : Bool :=
  bif bif bif bif bif decide (q.kind < 0) then true else decide (q.kind > 3) then true else decide ((q.chg.length : Int) > 20) then true else bif q.kind == 0 then bif decide (q.width < 1) then true else decide (q.width > 64) else false then true else bif q.kind != 0 then q.width != 0 else false then true else false
def sigOk (w : Wv) (q : Sig) : Bool := !sigBad q && chgOk w q none (ini q) q.chg
def gapBad (w : Wv) (p : Option Iv) (x : Iv) : Bool :=
  bif bif bif decide (x.frm < 0) then true else decide (x.frm ≥ x.to) then true else decide (x.to > addI .i64 w.fin 1) then true else match p with | none => false | some y => decide (y.to ≥ x.frm)
def gapOk (w : Wv) : Option Iv → List Iv → Bool
  | _, [] => true
  | p, x :: r => !gapBad w p x && gapOk w (some x) r
def smB (w : Wv) : Bool := !(bif bif bif decide ((w.sig.length : Int) > 8) then true else decide ((w.gap.length : Int) > 4) then true else decide (w.fin < 0) then true else decide (w.fin > 1099511627776)) && (w.sig.all (sigOk w) && gapOk w none w.gap)
theorem F29 : OkF 29 Tryz.f29 := ⟨by kernel_rfl, by kernel_rfl, by kernel_rfl⟩
def lv29 : List (List Nat × List Nat) := [([1, 1, 0, 1, 0], [1, 3]), ([1, 1, 0, 1, 0, 0, 1, 0, 0, 1, 1, 1, 1, 0], [1, 3, 4, 5, 6]), ([1, 1, 1, 0, 1, 0], [1, 8])]
noncomputable def nSms  : List Nat → Nat → Option Ans := scrAt []
theorem nSm [Lay] (w : Wv) (K : D → Prop) : runS (En Tryz.f29) (fi Tryz.f29 K) (nSms ) lv29 200 [.code []] ⟨argSlots 0 [w.d], .empty⟩ =
  (w.sig.length ≤ lenM → ((!decide ((↑w.sig.length : Int) > 8)) = true → w.gap.length ≤ lenM) → bif bif bif bif decide ((↑w.sig.length : Int) > 8) then true else decide ((↑w.gap.length : Int) > 4) then true else decide (w.fin < 0) then true else decide (w.fin > 1099511627776) then K (B false) else At (En Tryz.f29) (fi Tryz.f29 K) [It.code [1, 1, 0, 1, 0], It.blk 0, It.code [1, 1, 1]] { sl := [(1, .own [L w.sig 3 Sig.d, L w.gap 2 Iv.d, I w.fin]), (3, I 0)], h := Heap.empty : St }) := by kernel_rfl
def SSm (w : Wv) (i : Int) : St := ⟨[(1, .own [L w.sig 3 Sig.d, L w.gap 2 Iv.d, I w.fin]), (3, I i)], .empty⟩
noncomputable def nSmas (w : Wv) (i : Int) : List Nat → Nat → Option Ans := scrAt [([1, 1, 0, 1, 0, 0, 1, 0, 0, 1, 1, 0], 1, Ans.pure [(w.sig.getD i.toNat default).d] (.str (ini (w.sig.getD i.toNat default))))]
theorem nSma [Lay] (w : Wv) (i : Int) (J : St → Prop) (K : D → Prop) : runS (En Tryz.f29) (fi Tryz.f29 K) (nSmas w i) lv29 200 [.code [1, 1, 0, 1, 0, 0], stp [1, 3] J, .blk 0, .code [1, 1, 1]] (SSm w i) =
  (w.sig.length ≤ lenM → bif decide (i < (↑w.sig.length : Int)) then (0 ≤ i ∧ i < (↑w.sig.length : Int)) ∧ True ∧ (((!bif decide ((w.sig.getD i.toNat default).kind < 0) then true else decide ((w.sig.getD i.toNat default).kind > 3)) = true → (w.sig.getD i.toNat default).chg.length ≤ lenM) → bif bif bif bif bif decide ((w.sig.getD i.toNat default).kind < 0) then true else decide ((w.sig.getD i.toNat default).kind > 3) then true else decide ((↑(w.sig.getD i.toNat default).chg.length : Int) > 20) then true else bif (w.sig.getD i.toNat default).kind == 0 then bif decide ((w.sig.getD i.toNat default).width < 1) then true else decide ((w.sig.getD i.toNat default).width > 64) else false then true else bif (w.sig.getD i.toNat default).kind != 0 then (w.sig.getD i.toNat default).width != 0 else false then K (B false) else PureW PP 67 [(w.sig.getD i.toNat default).d] [(w.sig.getD i.toNat default).d] (.str (ini (w.sig.getD i.toNat default))) ∧ At (En Tryz.f29) (fi Tryz.f29 K) [It.code [1, 1, 0, 1, 0, 0, 1, 0, 0, 1, 1, 1, 1, 0], It.blk 2, It.blk 1, It.code [1, 1, 0, 1, 0, 0, 1, 1], stp [1, 3] J, It.blk 0, It.code [1, 1, 1]] { sl := [(1, .own [L w.sig 3 Sig.d, L w.gap 2 Iv.d, I w.fin]), (3, I i), (4, .own [I (w.sig.getD i.toNat default).kind, I (w.sig.getD i.toNat default).width, L (w.sig.getD i.toNat default).chg 2 Chg.d]), (5, .str (ini (w.sig.getD i.toNat default))), (6, I 0)], h := Heap.empty : St }) else At (En Tryz.f29) (fi Tryz.f29 K) [It.code [1, 1, 1, 0, 1, 0], It.blk 4, It.code [1, 1, 1, 1]] { sl := [(1, .own [L w.sig 3 Sig.d, L w.gap 2 Iv.d, I w.fin]), (8, I 0)], h := Heap.empty : St }) := by kernel_rfl
def SSm2 (w : Wv) (i : Int) (q : Sig) (k : Int) (b : Str) : St := ⟨[(1, .own [L w.sig 3 Sig.d, L w.gap 2 Iv.d, I w.fin]), (3, I i), (4, .own [I q.kind, I q.width, L q.chg 2 Chg.d]), (5, .str b), (6, I k)], .empty⟩
noncomputable def nSmbs (q : Sig) (k : Int) : List Nat → Nat → Option Ans := scrAt [([1, 1, 0, 1, 0, 0, 1, 0, 0, 1, 1, 1, 1, 0, 0, 1, 0, 0, 1, 0, 0], 30, Ans.pure [q.d, .str (q.chg.getD k.toNat default).val] (B (vlOk q (q.chg.getD k.toNat default).val)))]
theorem nSmb [Lay] (w : Wv) (i : Int) (q : Sig) (k : Int) (b : Str) (J J2 : St → Prop) (K : D → Prop) : runS (En Tryz.f29) (fi Tryz.f29 K) (nSmbs q k) lv29 200 [.code [1, 1, 0, 1, 0, 0, 1, 0, 0, 1, 1, 1, 1, 0, 0], stp [1, 3, 4, 5, 6] J, .blk 2, .blk 1, .code [1, 1, 0, 1, 0, 0, 1, 1], stp [1, 3] J2, .blk 0, .code [1, 1, 1]] (SSm2 w i q k b) =
  (q.chg.length ≤ lenM → bif decide (k < (↑q.chg.length : Int)) then (0 ≤ k ∧ k < (↑q.chg.length : Int)) ∧ True ∧ (((!bif decide ((q.chg.getD k.toNat default).time < 0) then true else decide ((q.chg.getD k.toNat default).time > w.fin)) && decide (k > 0)) = true → 0 ≤ subI .i64 k 1 ∧ subI .i64 k 1 < (↑q.chg.length : Int)) ∧ ((!bif bif decide ((q.chg.getD k.toNat default).time < 0) then true else decide ((q.chg.getD k.toNat default).time > w.fin) then true else bif decide (k > 0) then decide ((q.chg.getD (subI .i64 k 1).toNat default).time ≥ (q.chg.getD k.toNat default).time) else false) = true → PureW PP 68 [q.d, .str (q.chg.getD k.toNat default).val] [q.d, .str (q.chg.getD k.toNat default).val] (B (vlOk q (q.chg.getD k.toNat default).val))) ∧ bif bif bif bif bif decide ((q.chg.getD k.toNat default).time < 0) then true else decide ((q.chg.getD k.toNat default).time > w.fin) then true else bif decide (k > 0) then decide ((q.chg.getD (subI .i64 k 1).toNat default).time ≥ (q.chg.getD k.toNat default).time) else false then true else !vlOk q (q.chg.getD k.toNat default).val then true else bif q.kind != 3 then (q.chg.getD k.toNat default).val == b else false then K (B false) else J { sl := [(1, .own [L w.sig 3 Sig.d, L w.gap 2 Iv.d, I w.fin]), (3, I i), (4, .own [I q.kind, I q.width, L q.chg 2 Chg.d]), (5, .str (q.chg.getD k.toNat default).val), (6, I (addI .i64 k 1))], h := Heap.empty : St } else J2 { sl := [(1, .own [L w.sig 3 Sig.d, L w.gap 2 Iv.d, I w.fin]), (3, I (addI .i64 i 1))], h := Heap.empty : St }) := by kernel_rfl
def SSm3 (w : Wv) (i : Int) : St := ⟨[(1, .own [L w.sig 3 Sig.d, L w.gap 2 Iv.d, I w.fin]), (8, I i)], .empty⟩
noncomputable def nSmcs  : List Nat → Nat → Option Ans := scrAt []
theorem nSmc [Lay] (w : Wv) (i : Int) (J : St → Prop) (K : D → Prop) : runS (En Tryz.f29) (fi Tryz.f29 K) (nSmcs ) lv29 200 [.code [1, 1, 1, 0, 1, 0, 0], stp [1, 8] J, .blk 4, .code [1, 1, 1, 1]] (SSm3 w i) =
  (w.gap.length ≤ lenM → bif decide (i < (↑w.gap.length : Int)) then (0 ≤ i ∧ i < (↑w.gap.length : Int)) ∧ True ∧ (((!bif bif decide ((w.gap.getD i.toNat default).frm < 0) then true else decide ((w.gap.getD i.toNat default).frm ≥ (w.gap.getD i.toNat default).to) then true else decide ((w.gap.getD i.toNat default).to > addI .i64 w.fin 1)) && decide (i > 0)) = true → 0 ≤ subI .i64 i 1 ∧ subI .i64 i 1 < (↑w.gap.length : Int)) ∧ bif bif bif bif decide ((w.gap.getD i.toNat default).frm < 0) then true else decide ((w.gap.getD i.toNat default).frm ≥ (w.gap.getD i.toNat default).to) then true else decide ((w.gap.getD i.toNat default).to > addI .i64 w.fin 1) then true else bif decide (i > 0) then decide ((w.gap.getD (subI .i64 i 1).toNat default).to ≥ (w.gap.getD i.toNat default).frm) else false then K (B false) else J { sl := [(1, .own [L w.sig 3 Sig.d, L w.gap 2 Iv.d, I w.fin]), (8, I (addI .i64 i 1))], h := Heap.empty : St } else K (B true)) := by kernel_rfl
theorem sigBad_width {q : Sig} (h : sigBad q = false) : q.width ≤ 64 ∧ q.chg.length ≤ 20 ∧ 0 ≤ q.kind ∧ q.kind ≤ 3 := by
  unfold sigBad at h
  simp only [Bool.cond_eq_ite] at h
  by_cases h1 : q.kind < 0
  · simp [h1] at h
  by_cases h2 : q.kind > 3
  · simp [h1, h2] at h
  by_cases h3 : (q.chg.length : Int) > 20
  · simp [h1, h2, h3] at h
  refine ⟨?_, by omega, by omega, by omega⟩
  by_cases h4 : q.kind = 0
  · by_cases h5 : q.width < 1
    · simp [h1, h2, h3, h4, h5] at h
    · by_cases h6 : q.width > 64
      · simp [h1, h2, h3, h4, h5, h6] at h
      · omega
  · by_cases h5 : q.width = 0
    · omega
    · simp [h1, h2, h3, h4, h5] at h
theorem c29 [Lay] (w : Wv) : Pure PP 29 [w.d] (B (smB w)) := by
  refine pu F29 (by kernel_rfl) (of_eq (nSm w _) fun hl _ => cond_intro (fun h => ?_) fun h => ?_) <;> unfold smB <;> rw [h]
  · exact Wk.refl _
  simp only [Bool.not_false, Bool.true_and]
  refine lp (fn := Tryz.f29) (fun i : Nat => i ≤ w.sig.length ∧ w.sig.all (sigOk w) = (w.sig.drop i).all (sigOk w)) (fun i => SSm w i) (fun i => w.sig.length - i) [1, 3] (by kernel_rfl) (fun i hi => of_eq (nSma w i _ _) fun _ => cond_intro (fun hlt => ?_) fun hge => ?_) 0 ⟨Nat.zero_le _, rfl⟩
  · have hlt := ltI hlt
    obtain ⟨_, he⟩ := hi
    rw [Int.toNat_natCast]
    rw [all_drop hlt] at he
    generalize w.sig.getD i default = q at he ⊢
    refine ⟨⟨by omega, by omega⟩, trivial, fun hx => cond_intro (fun h => ?_) fun h => ?_⟩
    · have hb : sigBad q = true := by unfold sigBad; rw [h]; rfl
      rw [he]; unfold sigOk; rw [hb]; exact Wk.refl _
    · have hb : sigBad q = false := by unfold sigBad; rw [h]; rfl
      obtain ⟨h1, h2, h3, h4⟩ := sigBad_width hb
      have hcl : q.chg.length ≤ lenM := by unfold lenM; omega
      refine ⟨PureW.mk (c67 q (by omega)), ?_⟩
      refine lp (fn := Tryz.f29) (fun z : Nat × Str => z.1 ≤ q.chg.length ∧ chgOk w q none (ini q) q.chg = chgOk w q (prevX q.chg z.1) z.2 (q.chg.drop z.1)) (fun z => SSm2 w i q z.1 z.2) (fun z => q.chg.length - z.1) [1, 3, 4, 5, 6] (by kernel_rfl) (fun z hz => of_eq (nSmb w i q z.1 z.2 _ _ _) fun _ => ?_) (0, ini q) ⟨Nat.zero_le _, rfl⟩
      obtain ⟨k, u⟩ := z
      obtain ⟨_, hc⟩ := hz
      simp only at hc ⊢
      refine cond_intro (fun hlt2 => ?_) fun hge => ?_
      · have hlt2 := ltI hlt2
        rw [drop_cons _ _ hlt2] at hc
        simp only [chgOk] at hc
        have hp : 0 < k → subI .i64 (k : Int) 1 = ((k - 1 : Nat) : Int) := fun h0 => lastI h0 (by omega)
        rw [add1 hlt2 hcl, Int.toNat_natCast]
        have hbad : (bif bif bif bif decide ((q.chg.getD k default).time < 0) then true else decide ((q.chg.getD k default).time > w.fin) then true else bif decide ((k : Int) > 0) then decide ((q.chg.getD (subI .i64 (k : Int) 1).toNat default).time ≥ (q.chg.getD k default).time) else false then true else !vlOk q (q.chg.getD k default).val then true else bif q.kind != 3 then (q.chg.getD k default).val == u else false) = chgBad w q (prevX q.chg k) u (q.chg.getD k default) := by
          unfold chgBad
          cases k with
          | zero => rfl
          | succ k => rw [hp (by omega), Int.toNat_natCast, decide_eq_true (show ((k + 1 : Nat) : Int) > 0 by omega)]; rfl
        refine ⟨⟨by omega, by omega⟩, trivial, fun h => ?_, fun _ => PureW.mk (c68 _ _), ?_⟩
        · have h0 : 0 < k := by simp at h; omega
          rw [hp h0]; omega
        · rw [hbad]
          refine cond_intro (fun h => ?_) fun h => ?_
          · rw [h] at hc
            rw [he]; unfold sigOk; rw [hb, hc]; exact Wk.refl _
          · rw [h] at hc
            exact Nx.mk (k + 1, (q.chg.getD k default).val) ⟨hlt2, hc⟩ (by simp only; omega)
      · rw [List.drop_of_length_le (geI hge)] at hc
        have hs : sigOk w q = true := by unfold sigOk; rw [hb, hc]; rfl
        rw [add1 hlt hl]
        exact Nx.mk (i + 1) ⟨hlt, by rw [he, hs]; rfl⟩ (by omega)
  · have ha : w.sig.all (sigOk w) = true := by rw [hi.2, List.drop_of_length_le (geI hge)]; rfl
    rw [ha]
    simp only [Bool.true_and]
    refine lp (fn := Tryz.f29) (fun i : Nat => i ≤ w.gap.length ∧ gapOk w none w.gap = gapOk w (prevX w.gap i) (w.gap.drop i)) (fun i => SSm3 w i) (fun i => w.gap.length - i) [1, 8] (by kernel_rfl) (fun i hi => of_eq (nSmc w i _ _) fun hgl => cond_intro (fun hlt => ?_) fun hge => ?_) 0 ⟨Nat.zero_le _, rfl⟩
    · have hlt := ltI hlt
      obtain ⟨_, he⟩ := hi
      have hp : 0 < i → subI .i64 (i : Int) 1 = ((i - 1 : Nat) : Int) := fun h0 => lastI h0 (by omega)
      rw [drop_cons _ _ hlt] at he
      simp only [gapOk] at he
      rw [add1 hlt hgl, Int.toNat_natCast]
      have hbad : (bif bif bif decide ((w.gap.getD i default).frm < 0) then true else decide ((w.gap.getD i default).frm ≥ (w.gap.getD i default).to) then true else decide ((w.gap.getD i default).to > addI .i64 w.fin 1) then true else bif decide ((i : Int) > 0) then decide ((w.gap.getD (subI .i64 (i : Int) 1).toNat default).to ≥ (w.gap.getD i default).frm) else false) = gapBad w (prevX w.gap i) (w.gap.getD i default) := by
        unfold gapBad
        cases i with
        | zero => rfl
        | succ i => rw [hp (by omega), Int.toNat_natCast, decide_eq_true (show ((i + 1 : Nat) : Int) > 0 by omega)]; rfl
      refine ⟨⟨by omega, by omega⟩, trivial, fun h => ?_, ?_⟩
      · have h0 : 0 < i := by simp at h; omega
        rw [hp h0]; omega
      · rw [hbad]
        refine cond_intro (fun h => ?_) fun h => ?_
        · rw [h] at he; rw [he]; exact Wk.refl _
        · rw [h] at he; exact Nx.mk (i + 1) ⟨hlt, he⟩ (by omega)
    · rw [hi.2, List.drop_of_length_le (geI hge)]; exact Wk.refl _
theorem chgOk_inc {w : Wv} {q : Sig} : ∀ {l : List Chg} {p : Option Chg} {b : Str} {t : Int}, chgOk w q p b l = true → (match p with | none => t = -1 | some y => t = y.time) → Inc t l
  | [], _, _, _, _, _ => trivial
  | x :: r, p, b, t, h, ht => by
    simp only [chgOk, Bool.and_eq_true, Bool.not_eq_true'] at h
    obtain ⟨h1, h2⟩ := h
    refine ⟨?_, chgOk_inc h2 rfl⟩
    unfold chgBad at h1
    by_cases h0 : x.time < 0
    · rw [decide_eq_true h0] at h1; cases h1
    rw [decide_eq_false h0] at h1
    cases h3 : decide (x.time > w.fin) with
    | true => rw [h3] at h1; cases h1
    | false =>
      rw [h3] at h1
      cases p with
      | none => simp only at ht; omega
      | some y =>
        simp only at ht
        by_cases h4 : y.time ≥ x.time
        · simp [h4] at h1
        · omega
structure SmOk (w : Wv) : Prop where
  fin : 0 ≤ w.fin ∧ w.fin ≤ 1099511627776
  len : w.sig.length ≤ 8
  sig : ∀ q ∈ w.sig, q.chg.length ≤ 20 ∧ q.width ≤ 64 ∧ Inc (-1) q.chg
theorem smB_ok {w : Wv} (h : smB w = true) : SmOk w := by
  unfold smB at h
  simp only [Bool.and_eq_true, Bool.not_eq_true'] at h
  obtain ⟨h1, h2, _⟩ := h
  by_cases c1 : (w.sig.length : Int) > 8
  · rw [decide_eq_true c1] at h1; cases h1
  rw [decide_eq_false c1] at h1
  cases c2 : decide ((w.gap.length : Int) > 4) with
  | true => rw [c2] at h1; cases h1
  | false =>
    rw [c2] at h1
    by_cases c3 : w.fin < 0
    · rw [decide_eq_true c3] at h1; cases h1
    rw [decide_eq_false c3] at h1
    by_cases c4 : w.fin > 1099511627776
    · rw [decide_eq_true c4] at h1; cases h1
    refine ⟨⟨by omega, by omega⟩, by omega, fun q hq => ?_⟩
    have := List.all_eq_true.1 h2 q hq
    unfold sigOk at this
    simp only [Bool.and_eq_true, Bool.not_eq_true'] at this
    obtain ⟨d1, d2, _⟩ := sigBad_width this.1
    exact ⟨d2, d1, chgOk_inc this.2 rfl⟩
end Go.Proofs.YtpcbjkjgjoemaaaGreatDoor.S1
/- Seat 2: the reference's spans of a signal. -/
namespace Go.Proofs.YtpcbjkjgjoemaaaGreatDoor.S1
open Go Go.Ab Go.Proofs
end Go.Proofs.YtpcbjkjgjoemaaaGreatDoor.S1
/- Seat 2: what Of answers, by the reference; the law on Of. -/
namespace Go.Proofs.YtpcbjkjgjoemaaaGreatDoor.S1
open Go Go.Ab Go.Proofs
instance {ds : List D} [h : DS ds] : DD (.ep ds) := ⟨h.p⟩
def hR : Heap := ⟨fun _ => none, 4, fun _ => none, 1, fun _ => none⟩
theorem over_eq {lim c : Int} (h0 : 0 ≤ c) (h : c ≤ 1000000) : over lim c = decide (lim ≥ 0 ∧ c + 1 > lim) := by
  unfold over
  rw [add64 (by omega) (by omega)]
  by_cases h1 : lim ≥ 0
  · rw [decide_eq_true h1]; simp [h1]
  · rw [decide_eq_false h1]; simp [h1]
theorem cut_cons {at_ to : Int} {x : Chg} {l : List Chg} (h : Inc at_ (x :: l)) (ht : x.time ≤ to) : cut (x :: l) at_ to = x :: cut l x.time to := by
  obtain ⟨h1, h2⟩ := h
  have hgt := Inc.gt h2
  simp only [cut, List.filter_cons, decide_eq_true (show x.time > at_ by omega), decide_eq_true ht, Bool.and_self, if_true]
  congr 1
  refine List.filter_congr fun y hy => ?_
  have := hgt y hy
  rw [decide_eq_true (show y.time > at_ by omega), decide_eq_true (show y.time > x.time by omega)]
theorem cut_stop {at_ to : Int} {x : Chg} {l : List Chg} (h : Inc at_ (x :: l)) (ht : x.time > to) : cut (x :: l) at_ to = [] := by
  unfold cut
  rw [List.filter_eq_nil_iff]
  intro y hy
  have : to < y.time := by
    rcases List.mem_cons.1 hy with rfl | hy
    · exact ht
    · have := Inc.gt h.2 y hy; omega
  simp; omega
/-- The rounds: all of them, or the source's error. -/
theorem itR_plain (to lim : Int) : ∀ (b : List Chg) (at_ c : Int) (out : List Sp), Inc at_ b → 0 ≤ c → c + b.length ≤ 999999 →
    ((lim < 0 ∨ c + (cut b at_ to).length + 1 ≤ lim) → itR lim to b c out = ((cut b at_ to).foldl (fun o x => addS o x.time x.val) out, c + (cut b at_ to).length + 1, 0)) ∧
    (¬ (lim < 0 ∨ c + (cut b at_ to).length + 1 ≤ lim) → (itR lim to b c out).2.2 = 14)
  | [], at_, c, out, _, h0, hl => by
    simp only [List.length_nil] at hl
    have ho := over_eq (lim := lim) h0 (by omega)
    have ha : addI .i64 c 1 = c + 1 := add64 (by omega) (by omega)
    simp only [itR, ha, ho, cut, List.filter_nil, List.length_nil, List.foldl_nil]
    refine ⟨fun h => ?_, fun h => ?_⟩
    · rw [decide_eq_false (by omega)]; simp
    · rw [decide_eq_true (by omega)]; rfl
  | x :: l, at_, c, out, hi, h0, hl => by
    simp only [List.length_cons] at hl
    have ho := over_eq (lim := lim) h0 (by omega)
    have ha : addI .i64 c 1 = c + 1 := add64 (by omega) (by omega)
    have hi2 := hi
    obtain ⟨h1, h2⟩ := hi2
    simp only [itR, ha, ho]
    by_cases ht : x.time > to
    · rw [cut_stop hi ht, decide_eq_true ht]
      simp only [List.length_nil, List.foldl_nil, cond_true]
      refine ⟨fun h => ?_, fun h => ?_⟩
      · rw [decide_eq_false (by omega)]; simp
      · rw [decide_eq_true (by omega)]; rfl
    · rw [cut_cons hi (by omega), decide_eq_false ht]
      simp only [List.length_cons, List.foldl_cons, cond_false]
      have ih := itR_plain to lim l x.time (c + 1) (addS out x.time x.val) h2 (by omega) (by omega)
      refine ⟨fun h => ?_, fun h => ?_⟩
      · rw [decide_eq_false (by omega)]
        simp only [cond_false]
        rw [ih.1 (by omega)]
        congr 2
        push_cast; omega
      · by_cases hc : lim ≥ 0 ∧ c + 1 > lim
        · rw [decide_eq_true hc]; rfl
        · rw [decide_eq_false hc]
          simp only [cond_false]
          exact ih.2 (by omega)
theorem cut_aft (l : List Chg) (frm to : Int) : cut (aft l frm) frm to = cut l frm to := by
  unfold cut aft
  rw [List.filter_filter]
  refine List.filter_congr fun x _ => ?_
  cases decide (x.time > frm) <;> simp
theorem aft_len (l : List Chg) (frm : Int) : (aft l frm).length ≤ l.length := List.length_filter_le _ _
/-- A question within the wave. -/
structure Ask (w : Wv) (sig frm to : Int) : Prop where
  hsig : 0 ≤ sig ∧ sig < (w.sig.length : Int)
  hkind : (sigOf w sig).kind ≠ 3
  hfrm : 0 ≤ frm
  hle : frm ≤ to
  hto : to ≤ w.fin
theorem SmOk.at {w : Wv} (h : SmOk w) {sig : Int} (hs : 0 ≤ sig ∧ sig < (w.sig.length : Int)) : (sigOf w sig).chg.length ≤ 20 ∧ (sigOf w sig).width ≤ 64 ∧ Inc (-1) (sigOf w sig).chg := by
  have : sig.toNat < w.sig.length := by omega
  refine h.sig _ ?_
  unfold sigOf
  rw [List.getD_eq_getElem?_getD, List.getElem?_eq_getElem this]
  exact List.getElem_mem this
/-- How many calls of the source Of makes. -/
def ofN (w : Wv) (sig frm to : Int) : Int := (cut (sigOf w sig).chg frm to).length + 3
theorem SmOk.of {w : Wv} (h : SmOk w) : ∀ q ∈ w.sig, q.chg.length ≤ 900 ∧ q.width ≤ 1000000 ∧ Inc (-1) q.chg := fun q hq => by
  obtain ⟨h1, h2, h3⟩ := h.sig q hq
  exact ⟨by omega, by omega, h3⟩
end Go.Proofs.YtpcbjkjgjoemaaaGreatDoor.S1
/- Seat 2: the arguments read. -/
namespace Go.Proofs.YtpcbjkjgjoemaaaGreatDoor.S1
open Go Go.Ab Go.Proofs
open Go.ChangeShapes Go.WideShapes Go.ChangeAt Go.RowKit Go.Joins

abbrev any {α : Type} : α → Prop := fun _ => True
theorem rc {P : Program} {total : Nat} {f : Field} {fs : List Field} {off off' t : Nat} {α β : Type} {enc : α → D} {encF : β → List D} (h : Reads P t enc any) (k : ReadsF P total fs off' encF any) (ht : f.type = t) (ho : f.offset = off) (hs : off + P.cellsOf t = off') :
    ReadsF P total (f :: fs) off (fun x : α × β => cellsD (enc x.1) ++ encF x.2) any := by
  subst ht; subst hs
  have hc := ReadsF.cons h k ho
  exact ⟨hc.size, hc.ones, hc.data, fun a b => by obtain ⟨x, _, hr⟩ := hc.it a b; exact ⟨x, trivial, hr⟩⟩
theorem rn {P : Program} {total : Nat} : ReadsF P total [] total (fun _ : Unit => []) any := ReadsF.nil
theorem cI : Tryz.prog.cellsOf 3 = 1 := by kernel_rfl
theorem cStr : Tryz.prog.cellsOf 9 = 1 := by kernel_rfl
theorem cChg : Tryz.prog.cellsOf 64 = 2 := by kernel_rfl
theorem cChgs : Tryz.prog.cellsOf 60 = 1 := by kernel_rfl
theorem cSig : Tryz.prog.cellsOf 62 = 3 := by kernel_rfl
theorem cSigs : Tryz.prog.cellsOf 22 = 1 := by kernel_rfl
theorem cGap : Tryz.prog.cellsOf 115 = 2 := by kernel_rfl
theorem cGaps : Tryz.prog.cellsOf 23 = 1 := by kernel_rfl
theorem cWv : Tryz.prog.cellsOf 25 = 3 := by kernel_rfl
theorem rI : Reads Tryz.prog 3 (fun n : Int => I n) any := (Reads.int Tryz.underlying3 cI).map (fun n => n) (fun _ => rfl) (fun n => ⟨n, rfl⟩) fun _ _ => trivial
theorem rStr : Reads Tryz.prog 9 (fun s : Str => .str s) any := (Reads.str Tryz.underlying9 cStr).map (fun n => n) (fun _ => rfl) (fun n => ⟨n, rfl⟩) fun _ _ => trivial
theorem rsl {e t sz : Nat} {α : Type} [Inhabited α] {enc : α → D} (h : Reads Tryz.prog e enc any) (ht : Tryz.prog.underlying t = some (.slice e)) (hc : Tryz.prog.cellsOf t = 1) (hp : Tryz.prog.cellsOf e = sz) (h0 : 0 < sz) : Reads Tryz.prog t (fun es : List α => L es sz enc) any := by
  have h := Reads.slice h ht hc (by rw [hp]; exact h0)
  rw [hp] at h
  exact h.map (fun n => n) (fun _ => rfl) (fun n => ⟨n, rfl⟩) fun _ _ => trivial
theorem rChg : Reads Tryz.prog 64 Chg.d any := by
  refine (Reads.struct (ok := any) Tryz.underlying64 ?_).map (fun x : Int × Str × Unit => (⟨x.1, x.2.1⟩ : Chg)) (fun _ => rfl) (fun b => ⟨(b.time, b.val, ()), rfl⟩) fun _ _ => trivial
  rw [cChg]
  exact rc rI (rc rStr rn rfl rfl (by rw [cStr])) rfl rfl (by rw [cI])
theorem rGap : Reads Tryz.prog 115 Iv.d any := by
  refine (Reads.struct (ok := any) Tryz.underlying115 ?_).map (fun x : Int × Int × Unit => (⟨x.1, x.2.1⟩ : Iv)) (fun _ => rfl) (fun b => ⟨(b.frm, b.to, ()), rfl⟩) fun _ _ => trivial
  rw [cGap]
  exact rc rI (rc rI rn rfl rfl (by rw [cI])) rfl rfl (by rw [cI])
theorem rChgs : Reads Tryz.prog 60 (fun es : List Chg => L es 2 Chg.d) any := rsl rChg Tryz.underlying60 cChgs cChg (by decide)
theorem rGaps : Reads Tryz.prog 23 (fun es : List Iv => L es 2 Iv.d) any := rsl rGap Tryz.underlying23 cGaps cGap (by decide)
theorem rSig : Reads Tryz.prog 62 Sig.d any := by
  refine (Reads.struct (ok := any) Tryz.underlying62 ?_).map (fun x : Int × Int × List Chg × Unit => (⟨x.1, x.2.1, x.2.2.1⟩ : Sig)) (fun _ => rfl) (fun b => ⟨(b.kind, b.width, b.chg, ()), rfl⟩) fun _ _ => trivial
  rw [cSig]
  exact rc rI (rc rI (rc rChgs rn rfl rfl (by rw [cChgs])) rfl rfl (by rw [cI])) rfl rfl (by rw [cI])
theorem rSigs : Reads Tryz.prog 22 (fun es : List Sig => L es 3 Sig.d) any := rsl rSig Tryz.underlying22 cSigs cSig (by decide)
theorem rWv : Reads Tryz.prog 25 Wv.d any := by
  refine (Reads.struct (ok := any) Tryz.underlying25 ?_).map (fun x : List Sig × List Iv × Int × Unit => (⟨x.1, x.2.1, x.2.2.1⟩ : Wv)) (fun _ => rfl) (fun b => ⟨(b.sig, b.gap, b.fin, ()), rfl⟩) fun _ _ => trivial
  rw [cWv]
  exact rc rSigs (rc rGaps (rc rI rn rfl rfl (by rw [cI])) rfl rfl (by rw [cGaps])) rfl rfl (by rw [cSigs])
theorem own : ownKnob Tryz.prog.godebug = none := by kernel_rfl
theorem laid : laidOutB Tryz.prog = true := by kernel_rfl
theorem trod_cons {P : Program} {H : Type} {en : TypeId × Value → H} {W : World} {b : Nat} {sp : Nat → Bool} {hd : Bool} {t : TypeId} {ts : List TypeId} {vs : List Value} {ds : List (DataW H)} {ps : List MemPlace} (h : DataW.TrodAll en P W b sp hd (t :: ts) vs ds ps) :
    ∃ v r d e p q, vs = v :: r ∧ ds = d :: e ∧ DataW.Trod en P W b sp hd t v d p ∧ DataW.TrodAll en P W b sp hd ts r e q := by
  cases vs with
  | nil => simp [DataW.TrodAll] at h
  | cons v r => cases ds with
    | nil => simp [DataW.TrodAll] at h
    | cons d e =>
      obtain ⟨p, q, h1, h2, _⟩ := h
      exact ⟨v, r, d, e, p, q, rfl, rfl, h1, h2⟩
theorem trod_nil {P : Program} {H : Type} {en : TypeId × Value → H} {W : World} {b : Nat} {sp : Nat → Bool} {hd : Bool} {vs : List Value} {ds : List (DataW H)} {ps : List MemPlace} (h : DataW.TrodAll en P W b sp hd [] vs ds ps) : vs = [] ∧ ds = [] := by
  cases vs with
  | nil => cases ds with
    | nil => exact ⟨rfl, rfl⟩
    | cons d e => simp [DataW.TrodAll] at h
  | cons v r => simp [DataW.TrodAll] at h
end Go.Proofs.YtpcbjkjgjoemaaaGreatDoor.S1
/- Spans and changes: plain laws for lines. -/
namespace Go.Proofs.YtpcbjkjgjoemaaaGreatDoor.S1
open Go Go.Ab Go.Proofs
/-- The spans of these changes behind frm. -/
def spS : Int → Str → Int → List Chg → List Sp
  | frm, v, to, [] => [⟨frm, to, v⟩]
  | frm, v, to, x :: r => ⟨frm, x.time - 1, v⟩ :: spS x.time x.val to r
/-- Successive values differ. -/
def Dif : Str → List Chg → Prop
  | _, [] => True
  | v, x :: r => v ≠ x.val ∧ Dif x.val r
theorem spS_len : ∀ (l : List Chg) (frm : Int) (v : Str) (to : Int), (spS frm v to l).length = l.length + 1
  | [], _, _, _ => rfl
  | x :: r, _, _, to => by rw [spS, List.length_cons, spS_len r, List.length_cons]
theorem foldl_sp (to : Int) : ∀ (l : List Chg) (a : List Sp) (frm : Int) (v : Str), Dif v l → (∀ x ∈ l, 0 ≤ x.time ∧ x.time ≤ 1099511627777) →
    lastTo (l.foldl (fun o x => addS o x.time x.val) (a ++ [⟨frm, 0, v⟩])) to = a ++ spS frm v to l
  | [], a, frm, v, _, _ => by
    rw [List.foldl_nil, lastTo_snoc, spS]
  | x :: r, a, frm, v, ⟨h1, h2⟩, hx => by
    have hx1 := hx x (List.mem_cons_self ..)
    rw [List.foldl_cons, addS_snoc, if_neg h1, sub64 (by omega) (by omega)]
    rw [foldl_sp to r _ x.time x.val h2 fun y hy => hx y (List.mem_cons_of_mem _ hy), spS, List.append_assoc]
    rfl
theorem codeL_sp {l : List Chg} {frm to : Int} {v : Str} (h : Dif v l) (hx : ∀ x ∈ l, 0 ≤ x.time ∧ x.time ≤ 1099511627777) : codeL v l frm to = spS frm v to l := by
  have := foldl_sp to l [] frm v h hx
  rw [List.nil_append, List.nil_append] at this
  exact this
theorem Dif.app : ∀ {a b : List Chg} {v : Str} {t : Int}, Dif v (a ++ b) → (∀ x ∈ a, x.time ≤ t) → Dif (valAt v a t) b
  | [], _, _, _, h, _ => h
  | x :: a, b, v, t, ⟨_, h⟩, ha => by
    rw [valAt_cons, decide_eq_true (ha x (List.mem_cons_self ..))]
    exact Dif.app h fun y hy => ha y (List.mem_cons_of_mem _ hy)
theorem Dif.left : ∀ {a b : List Chg} {v : Str}, Dif v (a ++ b) → Dif v a
  | [], _, _, _ => trivial
  | _ :: _, _, _, ⟨h1, h2⟩ => ⟨h1, Dif.left h2⟩
theorem Inc.left : ∀ {a b : List Chg} {t : Int}, Inc t (a ++ b) → Inc t a
  | [], _, _, _ => trivial
  | _ :: _, _, _, ⟨h1, h2⟩ => ⟨h1, Inc.left h2⟩
/-- The changes, cut at both ends. -/
theorem Inc.cut3 {s : Int} {l : List Chg} (h : Inc s l) {frm to : Int} (hft : frm ≤ to) : ∃ a b, l = a ++ (cut l frm to ++ b) ∧ (∀ x ∈ a, x.time ≤ frm) ∧ Inc frm (cut l frm to) ∧ (∀ x ∈ cut l frm to, x.time ≤ to) ∧ (∀ x ∈ b, to < x.time) := by
  obtain ⟨a, r, rfl, ha, hr⟩ := h.split frm
  obtain ⟨m, b, rfl, hm, hb⟩ := hr.split to
  have hm' := hr.left
  have hc : cut (a ++ (m ++ b)) frm to = m := by
    unfold cut
    rw [List.filter_append, List.filter_append, List.filter_eq_nil_iff.2 (fun x hx => by have := ha x hx; simp; omega), List.filter_eq_self.2 (fun x hx => by have := hm x hx; have := hm'.gt x hx; simp; omega), List.filter_eq_nil_iff.2 (fun x hx => by have := hb.gt x hx; simp; omega)]
    simp
  rw [hc]
  exact ⟨a, b, rfl, ha, hm', hm, hb.gt⟩
/-- How many changes up to t. -/
def nLe (l : List Chg) (t : Int) : Nat := (l.filter fun x => decide (x.time ≤ t)).length
theorem nLe_le (l : List Chg) (t : Int) : nLe l t ≤ l.length := List.length_filter_le _ _
theorem nLe_cons (x : Chg) (l : List Chg) (t : Int) : nLe (x :: l) t = (if x.time ≤ t then 1 else 0) + nLe l t := by
  unfold nLe
  rw [List.filter_cons]
  by_cases h : x.time ≤ t
  · rw [if_pos (by simpa using h), if_pos h, List.length_cons]; omega
  · rw [if_neg (by simpa using h), if_neg h]; omega
theorem nLe_zero {l : List Chg} {t : Int} (h : ∀ x ∈ l, t < x.time) : nLe l t = 0 := by
  unfold nLe
  rw [List.filter_eq_nil_iff.2 fun x hx => by have := h x hx; simp; omega]; rfl
theorem nLe_all {l : List Chg} {t : Int} (h : ∀ x ∈ l, x.time ≤ t) : nLe l t = l.length := by
  unfold nLe
  rw [List.filter_eq_self.2 fun x hx => by simpa using h x hx]
theorem nLe_mono (l : List Chg) {s t : Int} (h : s ≤ t) : nLe l s ≤ nLe l t := by
  induction l with
  | nil => exact Nat.le_refl _
  | cons x r ih =>
    rw [nLe_cons, nLe_cons]
    by_cases h1 : x.time ≤ s
    · rw [if_pos h1, if_pos (by omega)]; omega
    · rw [if_neg h1]; split <;> omega
/-- In order, the first are those up to t. -/
theorem nLe_iff : ∀ {l : List Chg} {s : Int} (_ : Inc s l) (t : Int) (i : Nat), i < nLe l t ↔ i < l.length ∧ (l.getD i default).time ≤ t
  | [], _, _, _, i => by unfold nLe; simp
  | x :: r, s, ⟨h1, h2⟩, t, i => by
    rw [nLe_cons]
    by_cases hx : x.time ≤ t
    · rw [if_pos hx]
      cases i with
      | zero => simp [hx]; omega
      | succ i =>
        rw [List.getD_cons_succ, List.length_cons]
        have := nLe_iff h2 t i
        omega
    · rw [if_neg hx, nLe_zero (l := r) fun y hy => by have := h2.gt y hy; omega]
      cases i with
      | zero => simp [hx]
      | succ i =>
        rw [List.getD_cons_succ, List.length_cons]
        refine ⟨fun h => by omega, fun ⟨a, b⟩ => ?_⟩
        have hm : r.getD i default ∈ r := by
          rw [List.getD_eq_getElem?_getD, List.getElem?_eq_getElem (by omega)]
          exact List.getElem_mem (by omega)
        have := h2.gt _ hm; omega
/-- The value behind i changes. -/
def curV (v : Str) (l : List Chg) : Nat → Str
  | 0 => v
  | i + 1 => (l.getD i default).val
theorem curV_valAt : ∀ {l : List Chg} {s : Int} (_ : Inc s l) (v : Str) (t : Int), valAt v l t = curV v l (nLe l t)
  | [], _, _, _, _ => rfl
  | x :: r, s, ⟨h1, h2⟩, v, t => by
    rw [valAt_cons, nLe_cons]
    by_cases hx : x.time ≤ t
    · rw [decide_eq_true hx, if_pos hx, cond_true, curV_valAt h2 x.val t, Nat.add_comm]
      show _ = ((x :: r).getD (nLe r t) default).val
      cases nLe r t with
      | zero => rfl
      | succ n => rfl
    · rw [decide_eq_false hx, if_neg hx, cond_false, nLe_zero (l := r) fun y hy => by have := h2.gt y hy; omega]
      exact valAt_gt r v t fun y hy => by have := h2.gt y hy; omega
theorem spS_get : ∀ (l : List Chg) (frm : Int) (v : Str) (to : Int) (i : Nat), i ≤ l.length →
    (spS frm v to l).getD i default = ⟨if i = 0 then frm else (l.getD (i - 1) default).time, if i < l.length then (l.getD i default).time - 1 else to, curV v l i⟩
  | [], frm, v, to, i, h => by
    have : i = 0 := by simpa using h
    subst this; rfl
  | x :: r, frm, v, to, 0, h => by rw [spS]; simp [curV]
  | x :: r, frm, v, to, i + 1, h => by
    have h' : i ≤ r.length := by simpa using h
    rw [spS, List.getD_cons_succ, spS_get r x.time x.val to i h']
    rw [List.getD_cons_succ, List.length_cons]
    have hc : curV x.val r i = curV v (x :: r) (i + 1) := by cases i <;> rfl
    rw [hc, if_neg (Nat.succ_ne_zero i), Nat.add_sub_cancel]
    congr 1
    · cases i with
      | zero => rfl
      | succ i => rw [if_neg (Nat.succ_ne_zero i), Nat.add_sub_cancel, List.getD_cons_succ]
    · by_cases h3 : i < r.length
      · rw [if_pos h3, if_pos (by omega)]
      · rw [if_neg h3, if_neg (by omega)]
/-- How many changes from a to b. -/
def cntR (l : List Chg) (a b : Int) : Nat := (l.filter fun x => decide (x.time ≥ a) && decide (x.time ≤ b)).length
theorem cntR_nLe (l : List Chg) (a b : Int) (h : a ≤ b + 1) : cntR l a b = nLe l b - nLe l (a - 1) := by
  have : nLe l b = cntR l a b + nLe l (a - 1) := by
    induction l with
    | nil => rfl
    | cons x r ih =>
      rw [nLe_cons, nLe_cons, ih]
      unfold cntR
      rw [List.filter_cons]
      by_cases h1 : x.time ≤ a - 1
      · rw [if_pos h1, if_pos (by omega), decide_eq_false (by omega), Bool.false_and]; simp; omega
      · rw [if_neg h1]
        by_cases h2 : x.time ≤ b
        · rw [if_pos h2, decide_eq_true (by omega), decide_eq_true h2]; simp; omega
        · rw [if_neg h2, decide_eq_false h2, Bool.and_false]; simp
  omega
end Go.Proofs.YtpcbjkjgjoemaaaGreatDoor.S1
/- Lines, as both texts draw them: plain definitions and laws. -/
namespace Go.Proofs.YtpcbjkjgjoemaaaGreatDoor.S1
open Go Go.Ab Go.Proofs
/-- A column's last tick. -/
def hiC (a stp fin : Int) : Int := min (a + stp - 1) fin
/-- One, two or more. -/
def evCh (n : Nat) : UInt8 := if n = 0 then 46 else if n = 1 then 33 else 35
/-- How many columns are not empty. -/
def nCol (stp fin : Int) : Nat → Int → Nat
  | 0, _ => 0
  | k + 1, a => if a > fin then 0 else 1 + nCol stp fin k (a + stp)
/-- A character for each column. -/
def colS (f : Int → UInt8) (stp fin : Int) : Nat → Int → Str
  | 0, _ => []
  | k + 1, a => if a > fin then [] else f a :: colS f stp fin k (a + stp)
theorem nCol_le (stp fin : Int) : ∀ (k : Nat) (a : Int), nCol stp fin k a ≤ k
  | 0, _ => Nat.le_refl _
  | k + 1, a => by
    rw [nCol]
    have := nCol_le stp fin k (a + stp)
    split <;> omega
theorem mulS (j : Nat) (stp : Int) : ((j + 1 : Nat) : Int) * stp = (j : Int) * stp + stp := by
  rw [Int.natCast_add, Int.add_mul]; simp
theorem nCol_in (stp fin : Int) : ∀ (k : Nat) (a : Int) (j : Nat), j < nCol stp fin k a → a + (j : Int) * stp ≤ fin
  | 0, _, j, h => by rw [nCol] at h; omega
  | k + 1, a, j, h => by
    rw [nCol] at h
    split at h
    · omega
    · cases j with
      | zero => simp; omega
      | succ j =>
        have := nCol_in stp fin k (a + stp) j (by omega)
        rw [mulS]; omega
theorem nCol_end (stp fin : Int) : ∀ (k : Nat) (a : Int), nCol stp fin k a = k ∨ a + (nCol stp fin k a : Int) * stp > fin
  | 0, _ => .inl rfl
  | k + 1, a => by
    rw [nCol]
    split
    · right; simp; omega
    · rcases nCol_end stp fin k (a + stp) with h | h
      · left; omega
      · right
        rw [Nat.add_comm, mulS]; omega
theorem colS_len (f : Int → UInt8) (stp fin : Int) : ∀ (k : Nat) (a : Int), (colS f stp fin k a).length = nCol stp fin k a
  | 0, _ => rfl
  | k + 1, a => by
    rw [colS, nCol]
    split
    · rfl
    · rw [List.length_cons, colS_len f stp fin k]; omega
theorem colS_get (f : Int → UInt8) (stp fin : Int) : ∀ (k : Nat) (a : Int) (j : Nat), j < nCol stp fin k a → (colS f stp fin k a).getD j default = f (a + (j : Int) * stp)
  | 0, _, j, h => by rw [nCol] at h; omega
  | k + 1, a, j, h => by
    rw [nCol] at h
    rw [colS]
    split at h
    · omega
    · rename_i hf
      rw [if_neg hf]
      cases j with
      | zero => simp
      | succ j =>
        rw [List.getD_cons_succ, colS_get f stp fin k (a + stp) j (by omega), mulS]
        congr 1; omega
def evS (l : List Chg) (stp fin : Int) : Nat → Int → Str := colS (fun a => evCh (cntR l a (hiC a stp fin))) stp fin
def lvl (x : Str) : UInt8 := if x = [48] then 95 else if x = [49] then 45 else if x = [120] then 120 else if x = [122] then 122 else 0
def bitC (x y : Str) (n : Nat) : UInt8 := if 1 < n then 35 else if n = 0 then lvl x else if x = [48] ∧ y = [49] then 47 else if x = [49] ∧ y = [48] then 92 else 124
def bitCh (v : Str) (l : List Chg) (a b : Int) : UInt8 := bitC (curV v l (nLe l a)) (curV v l (nLe l b)) (nLe l b - nLe l a)
def bitS (v : Str) (l : List Chg) (stp fin : Int) : Nat → Int → Str := colS (fun a => bitCh v l a (hiC a stp fin)) stp fin
def blk (n : Nat) : Str := List.replicate n 32
def fitS (q : Str) (n : Nat) : Str := if q.length > n then q.take (n - 1) ++ [126] else q ++ blk (n - q.length)
theorem fitS_len (q : Str) {n : Nat} (h : 0 < n) : (fitS q n).length = n := by
  unfold fitS blk
  split
  · rw [List.length_append, List.length_take, List.length_singleton]; omega
  · rw [List.length_append, List.length_replicate]; omega
def flS (tx : Str → Str) (v : Str) (l : List Chg) (i q : Nat) : Str := if 0 < q then fitS (tx (curV v l i)) q else []
def busCh (n : Nat) : UInt8 := if n = 1 then 124 else 35
/-- A bus's columns: i: the changes so far; q: the quiet columns that wait. -/
def busS (tx : Str → Str) (v : Str) (l : List Chg) (stp fin : Int) : Nat → Int → Nat → Nat → Str
  | 0, _, i, q => flS tx v l i q
  | k + 1, a, i, q => if a > fin then flS tx v l i q else
    if nLe l (hiC a stp fin) - i = 0 then busS tx v l stp fin k (a + stp) i (q + 1)
    else flS tx v l i q ++ busCh (nLe l (hiC a stp fin) - i) :: busS tx v l stp fin k (a + stp) (nLe l (hiC a stp fin)) 0
/-- How many quiet columns from here on. -/
def quL (l : List Chg) (stp fin : Int) : Nat → Int → Nat
  | 0, _ => 0
  | k + 1, a => if a > fin then 0 else if 0 < cntR l a (hiC a stp fin) then 0 else 1 + quL l stp fin k (a + stp)
/-- The reference's columns: what is left of the text, whether one is open. -/
def rbusS (tx : Str → Str) (v : Str) (l : List Chg) (stp fin : Int) : Nat → Int → Str → Bool → Str
  | 0, _, _, _ => []
  | k + 1, a, rest, opn => if a > fin then [] else
    if 0 < cntR l a (hiC a stp fin) then busCh (cntR l a (hiC a stp fin)) :: rbusS tx v l stp fin k (a + stp) rest false
    else if opn = true then rest.getD 0 default :: rbusS tx v l stp fin k (a + stp) (rest.drop 1) true
    else (fitS (tx (curV v l (nLe l a))) (1 + quL l stp fin k (a + stp))).getD 0 default :: rbusS tx v l stp fin k (a + stp) ((fitS (tx (curV v l (nLe l a))) (1 + quL l stp fin k (a + stp))).drop 1) true
theorem bus_both (tx : Str → Str) (v : Str) {l : List Chg} {s : Int} (hi : Inc s l) {stp fin : Int} (h1 : 1 ≤ stp) : ∀ (k : Nat) (a : Int),
    (∀ rest, rbusS tx v l stp fin k a rest false = busS tx v l stp fin k a (nLe l (a - 1)) 0) ∧
    (∀ q, 0 < q → busS tx v l stp fin k a (nLe l (a - 1)) q = (fitS (tx (curV v l (nLe l (a - 1)))) (q + quL l stp fin k a)).take q ++ rbusS tx v l stp fin k a ((fitS (tx (curV v l (nLe l (a - 1)))) (q + quL l stp fin k a)).drop q) true)
  | 0, a => by
    refine ⟨fun rest => ?_, fun q hq => ?_⟩
    · rw [rbusS, busS, flS, if_neg (Nat.lt_irrefl _)]
    · rw [rbusS, busS, quL, flS, if_pos hq, Nat.add_zero, List.append_nil, List.take_of_length_le (by rw [fitS_len _ hq]; exact Nat.le_refl _)]
  | k + 1, a => by
    obtain ⟨ih1, ih2⟩ := bus_both tx v hi (fin := fin) h1 k (a + stp)
    by_cases hf : a > fin
    · refine ⟨fun rest => ?_, fun q hq => ?_⟩
      · rw [rbusS, busS, if_pos hf, if_pos hf, flS, if_neg (Nat.lt_irrefl _)]
      · rw [rbusS, busS, quL, if_pos hf, if_pos hf, if_pos hf, flS, if_pos hq, Nat.add_zero, List.append_nil, List.take_of_length_le (by rw [fitS_len _ hq]; exact Nat.le_refl _)]
    · have hb1 : a ≤ hiC a stp fin := by unfold hiC; omega
      have hb2 : hiC a stp fin ≤ a + stp - 1 := by unfold hiC; omega
      have hb3 : hiC a stp fin = a + stp - 1 ∨ a + stp > fin := by unfold hiC; omega
      have hc : cntR l a (hiC a stp fin) = nLe l (hiC a stp fin) - nLe l (a - 1) := cntR_nLe l a _ (by omega)
      -- what follows hangs on the changes up to the next column
      have hnext : ∀ q, (hb : hiC a stp fin = a + stp - 1 ∨ a + stp > fin) → busS tx v l stp fin k (a + stp) (nLe l (hiC a stp fin)) q = busS tx v l stp fin k (a + stp) (nLe l (a + stp - 1)) q ∨ a + stp > fin := fun q hb => by
        rcases hb with hb | hb
        · left; rw [hb]
        · exact .inr hb
      have hm := nLe_mono l hb1
      have hm1 := nLe_mono l (show a - 1 ≤ a by omega)
      have hend : a + stp > fin → ∀ (i q : Nat), busS tx v l stp fin k (a + stp) i q = flS tx v l i q := fun h i q => by
        cases k with
        | zero => rw [busS]
        | succ k => rw [busS, if_pos h]
      have hrend : a + stp > fin → ∀ rest b, rbusS tx v l stp fin k (a + stp) rest b = [] := fun h rest b => by
        cases k with
        | zero => rw [rbusS]
        | succ k => rw [rbusS, if_pos h]
      have hlend : a + stp > fin → quL l stp fin k (a + stp) = 0 := fun h => by
        cases k with
        | zero => rw [quL]
        | succ k => rw [quL, if_pos h]
      -- behind a change
      have hafter : ∀ rest, rbusS tx v l stp fin k (a + stp) rest false = busS tx v l stp fin k (a + stp) (nLe l (hiC a stp fin)) 0 := fun rest => by
        rcases hb3 with hb | hb
        · rw [ih1 rest, hb]
        · rw [hrend hb, hend hb, flS, if_neg (Nat.lt_irrefl _)]
      -- behind a quiet column
      have hquiet : ∀ (i q : Nat), nLe l (hiC a stp fin) = i → 0 < q → busS tx v l stp fin k (a + stp) i q = (fitS (tx (curV v l i)) (q + quL l stp fin k (a + stp))).take q ++ rbusS tx v l stp fin k (a + stp) ((fitS (tx (curV v l i)) (q + quL l stp fin k (a + stp))).drop q) true := fun i q hi hq => by
        rcases hb3 with hb | hb
        · rw [hb] at hi
          rw [← hi]
          exact ih2 q hq
        · rw [hrend hb, hend hb, hlend hb, flS, if_pos hq, Nat.add_zero, List.append_nil, List.take_of_length_le (by rw [fitS_len _ hq]; exact Nat.le_refl _)]
      by_cases hn : 0 < cntR l a (hiC a stp fin)
      · have hn' : ¬ nLe l (hiC a stp fin) - nLe l (a - 1) = 0 := by omega
        refine ⟨fun rest => ?_, fun q hq => ?_⟩
        · rw [rbusS, busS, if_neg hf, if_neg hf, if_pos hn, if_neg hn', flS, if_neg (Nat.lt_irrefl _), hafter, hc]; rfl
        · rw [rbusS, busS, quL, if_neg hf, if_neg hf, if_neg hf, if_pos hn, if_pos hn, if_neg hn', flS, if_pos hq, Nat.add_zero, List.take_of_length_le (by rw [fitS_len _ hq]; exact Nat.le_refl _), hafter, hc]
      · have hn' : nLe l (hiC a stp fin) - nLe l (a - 1) = 0 := by omega
        have hn2 : nLe l (hiC a stp fin) = nLe l (a - 1) := by omega
        have hn3 : nLe l a = nLe l (a - 1) := by omega
        refine ⟨fun rest => ?_, fun q hq => ?_⟩
        · rw [rbusS, busS, if_neg hf, if_neg hf, if_neg hn, if_pos hn', if_neg (by decide), hquiet _ 1 hn2 (by omega), hn3]
          have hl := fitS_len (tx (curV v l (nLe l (a - 1)))) (n := 1 + quL l stp fin k (a + stp)) (by omega)
          generalize fitS (tx (curV v l (nLe l (a - 1)))) (1 + quL l stp fin k (a + stp)) = z at hl ⊢
          cases z with
          | nil => simp at hl; omega
          | cons c z => rfl
        · rw [rbusS, busS, quL, if_neg hf, if_neg hf, if_neg hf, if_neg hn, if_neg hn, if_pos hn', if_pos rfl, hquiet _ (q + 1) hn2 (by omega)]
          have e : q + (1 + quL l stp fin k (a + stp)) = q + 1 + quL l stp fin k (a + stp) := by omega
          rw [e]
          have hl := fitS_len (tx (curV v l (nLe l (a - 1)))) (n := q + 1 + quL l stp fin k (a + stp)) (by omega)
          generalize fitS (tx (curV v l (nLe l (a - 1)))) (q + 1 + quL l stp fin k (a + stp)) = z at hl ⊢
          rw [take_snoc z q (by omega), List.append_assoc]
          congr 1
          rw [List.drop_drop]
          have : (z.drop q).getD 0 default = z.getD q default := by
            rw [drop_cons z q (by omega)]; rfl
          rw [this]; rfl
end Go.Proofs.YtpcbjkjgjoemaaaGreatDoor.S1
/- Seat 2: plain laws of valid lists of spans. -/
namespace Go.Proofs.YtpcbjkjgjoemaaaGreatDoor.S1
open Go Go.Ab Go.Proofs
theorem valAt_cut {s f t to : Int} (ht : f ≤ t) (hto : t ≤ to) : ∀ {l : List Chg} (v : Str), Inc s l → valAt (valAt v l f) (cut l f to) t = valAt v l t
  | l, v, hi => by
    obtain ⟨a, b, rfl, ha, hb⟩ := hi.split f
    have hv : valAt v (a ++ b) f = valAt v a f := by rw [valAt_app]; exact valAt_gt b _ _ hb.gt
    have hc : cut (a ++ b) f to = cut b f to := by
      have : cut a f to = [] := by
        unfold cut
        rw [List.filter_eq_nil_iff]
        intro x hx
        have := ha x hx
        simp; omega
      rw [cut, List.filter_append]
      show cut a f to ++ cut b f to = _
      rw [this]; rfl
    have hva : ∀ (a : List Chg) (v : Str), (∀ x ∈ a, x.time ≤ f) → valAt v a f = valAt v a t := fun a => by
      induction a with
      | nil => intro v _; rfl
      | cons y r ih =>
        intro v h
        have := h y (List.mem_cons_self ..)
        rw [valAt_cons, valAt_cons, decide_eq_true this, decide_eq_true (show y.time ≤ t by omega)]
        exact ih _ fun z hz => h z (List.mem_cons_of_mem _ hz)
    rw [hv, hc, valAt_app, ← hva a v ha]
    generalize valAt v a f = u
    clear hv hc ha hi hva
    have hin := hb
    revert hb
    suffices h : ∀ (b : List Chg) (s : Int) (u : Str), Inc s b → valAt u (b.filter fun x => decide (x.time > f) && decide (x.time ≤ to)) t = valAt u (b.filter fun x => decide (x.time > f)) t by
      intro hb
      have e : (b.filter fun x => decide (x.time > f)) = b := List.filter_eq_self.2 fun x hx => by have := hb.gt x hx; simp; omega
      have := h b f u hb
      rw [e] at this
      exact this
    intro b
    induction b with
    | nil => intros; rfl
    | cons y r ih =>
      intro s u hi
      obtain ⟨g1, g2⟩ := hi
      rw [List.filter_cons, List.filter_cons]
      by_cases h1 : y.time > f
      · rw [decide_eq_true h1]
        by_cases h2 : y.time ≤ to
        · rw [decide_eq_true h2]
          simp only [Bool.and_self, if_true]
          rw [valAt_cons, valAt_cons]
          exact ih _ _ g2
        · rw [decide_eq_false h2]
          simp only [Bool.and_false, if_true]
          rw [valAt_cons, decide_eq_false (by omega)]
          exact ih _ _ g2
      · rw [decide_eq_false h1]
        simp only [Bool.false_and]
        exact ih _ _ g2
end Go.Proofs.YtpcbjkjgjoemaaaGreatDoor.S1
