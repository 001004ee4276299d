/- Seat 1: valid directories. -/
import Derived.Test.YtmlhaikblfjghaaS7
namespace Go.Proofs.Ytmlhaikblfjghaa.S1
open Go Go.Ab Go.Proofs
theorem pw {P : Program} {f : Nat} {args args' : List D} {v : D} (h : Wks args args') (p : Ab.Pure P f args' v) : PureW P f args args' v := ⟨h, p⟩
theorem F27 : OkF 27 Try.f27 := ⟨by kernel_rfl, by kernel_rfl, by kernel_rfl⟩
def lv27 : List (List Nat × List Nat) := [([1, 1, 1, 0, 1, 0], [1, 3, 18, 19, 20])]
noncomputable def n27s (d : Dir) : List Nat → Nat → Option Ans := scrAt [([1, 0, 0], 2, Ans.pure [d.hdr.d] (B (fits d.hdr)))]
theorem n27 (d : Dir) (K : D → Prop) : runS (En Try.f27) (fi Try.f27 K) (n27s d) lv27 200 [.code []] ⟨argSlots 0 [d.d], .empty⟩ =
  (PureW PP 43 [d.hdr.d] [d.hdr.d] (B (fits d.hdr)) ∧ (((!!fits d.hdr) = true → d.blk.length ≤ lenM) → bif bif !fits d.hdr then true else decide ((↑d.blk.length : Int) > 32) then K (B false) else d.blk.length ≤ lenM → At (En Try.f27) (fi Try.f27 K) [It.code [1, 1, 1, 0, 1, 0], It.blk 0, It.code [1, 1, 1, 1]] { sl := [(1, .own [I d.hdr.sec, I d.hdr.len, I d.hdr.sum, L d.blk 7 Ent.d]), (3, I (-1)), (18, L d.blk 7 Ent.d), (19, I (↑d.blk.length : Int)), (20, I 0)], h := Heap.empty })) := by kernel_rfl
def S27 (d : Dir) (at_ i : Int) : St := ⟨[(1, .own [I d.hdr.sec, I d.hdr.len, I d.hdr.sum, L d.blk 7 Ent.d]), (3, I at_), (18, L d.blk 7 Ent.d), (19, I d.blk.length), (20, I i)], .empty⟩
noncomputable def n27as (d : Dir) (i : Int) : List Nat → Nat → Option Ans := scrAt [([1, 1, 1, 0, 1, 0, 0, 1, 1, 0, 0, 1, 1, 0, 0], 19, Ans.pure [(d.blk.getD i.toNat default).plc.d] (B (fits (d.blk.getD i.toNat default).plc))), ([1, 1, 1, 1, 0], 1, Ans.eff (Ab.LT (regs d) 2 Rg.d Heap.empty.nt) (hT Heap.empty (regs d).length)), ([1, 1, 1, 1, 0], 5, Ans.pure [I 1024, L (regs d ++ [{ frm := 0, cnt := 4 }]) 2 Rg.d] (B (spV 1024 (regs d ++ [{ frm := 0, cnt := 4 }]))))]
theorem n27a (d : Dir) (at_ i : Int) (J : St → Prop) (K : D → Prop) : runS (En Try.f27) (fi Try.f27 K) (n27as d i) lv27 200 [.code [1, 1, 1, 0, 1, 0, 0], stp [1, 3, 18, 19, 20] J, .blk 0, .code [1, 1, 1, 1]] (S27 d at_ i) =
  (bif decide (i < (↑d.blk.length : Int)) then (0 ≤ i ∧ i < (↑d.blk.length : Int)) ∧ True ∧ ((!bif bif (d.blk.getD i.toNat default).frm != at_ then true else decide ((d.blk.getD i.toNat default).to ≤ (d.blk.getD i.toNat default).frm) then true else decide ((d.blk.getD i.toNat default).to > 1099511627776)) = true → PureW PP 43 [(d.blk.getD i.toNat default).plc.d] [(d.blk.getD i.toNat default).plc.d] (B (fits (d.blk.getD i.toNat default).plc))) ∧ bif bif bif bif bif bif bif bif (d.blk.getD i.toNat default).frm != at_ then true else decide ((d.blk.getD i.toNat default).to ≤ (d.blk.getD i.toNat default).frm) then true else decide ((d.blk.getD i.toNat default).to > 1099511627776) then true else !fits (d.blk.getD i.toNat default).plc then true else decide ((d.blk.getD i.toNat default).lvl < 0) then true else decide ((d.blk.getD i.toNat default).lvl > 2) then true else bif (d.blk.getD i.toNat default).lvl == 1 then bif decide ((d.blk.getD i.toNat default).stp < 1) then true else decide ((d.blk.getD i.toNat default).stp > 1099511627776) else false then true else bif !(d.blk.getD i.toNat default).lvl == 1 then (d.blk.getD i.toNat default).stp != 0 else false then K (B false) else J { sl := [(1, .own [I d.hdr.sec, I d.hdr.len, I d.hdr.sum, L d.blk 7 Ent.d]), (3, I (d.blk.getD i.toNat default).to), (18, L d.blk 7 Ent.d), (19, I (↑d.blk.length : Int)), (20, I (addI .i64 i 1))], h := Heap.empty }
 else Does PP 45 [.agg [I d.hdr.sec, I d.hdr.len, I d.hdr.sum, L d.blk 7 Ent.d]] Heap.empty (Ab.LT (regs d) 2 Rg.d Heap.empty.nt) (hT Heap.empty (regs d).length) ∧ (upd (fun x => none) 0 (some (regs d).length) 0 = some (regs d).length ∧ ((regs d).length + 1) * 16 ≤ roomM) ∧ PureW PP 44 [I 1024, .list ((regs d).length + 1) 2 (catG (regs d).length (fun i => ((regs d).getD i default).d) (litG [.agg [I 0, I 4]])) (.tok 0 2)] [I 1024, L (regs d ++ [{ frm := 0, cnt := 4 }]) 2 Rg.d] (B (spV 1024 (regs d ++ [{ frm := 0, cnt := 4 }]))) ∧ K (B (spV 1024 (regs d ++ [{ frm := 0, cnt := 4 }])))) := by kernel_rfl

/-- An entry behind time at_ that is not valid. -/
def entBad (at_ : Int) (x : Ent) : Bool :=
  bif bif bif bif bif bif bif x.frm != at_ then true else decide (x.to ≤ x.frm) then true else decide (x.to > 1099511627776) then true else !fits x.plc then true else decide (x.lvl < 0) then true else decide (x.lvl > 2) then true
    else bif x.lvl == 1 then bif decide (x.stp < 1) then true else decide (x.stp > 1099511627776) else false then true else bif !x.lvl == 1 then x.stp != 0 else false
def entP (at_ : Int) : List Ent → Bool
  | [] => true
  | x :: r => bif entBad at_ x then false else entP x.to r
def dirOk (d : Dir) : Bool := bif bif !fits d.hdr then true else decide ((d.blk.length : Int) > 32) then false else bif entP (-1) d.blk then spV 1024 (regs d ++ [⟨0, 4⟩]) else false
theorem c27 (d : Dir) : Pure PP 27 [d.d] (B (dirOk d)) := by
  refine pu F27 (by kernel_rfl) (of_eq (n27 d _) ⟨PureW.mk (c43 _), fun _ => cond_intro (fun h => by simp only [dirOk, h, cond_true]; exact Wk.refl _) fun h hl => ?_⟩)
  have hle : d.blk.length ≤ 32 := by simp at h; omega
  have hd : dirOk d = bif entP (-1) d.blk then spV 1024 (regs d ++ [⟨0, 4⟩]) else false := by simp only [dirOk, h, cond_false]
  rw [hd]
  refine lp (fn := Try.f27) (fun x : Nat × Int => x.1 ≤ d.blk.length ∧ entP (-1) d.blk = entP x.2 (d.blk.drop x.1)) (fun x => S27 d x.2 x.1) (fun x => d.blk.length - x.1) [1, 3, 18, 19, 20] (by kernel_rfl) (fun x hx => of_eq (n27a d x.2 x.1 _ _) ?_) (0, -1) ⟨Nat.zero_le _, rfl⟩
  obtain ⟨i, at_⟩ := x
  obtain ⟨hi, he⟩ := hx
  simp only at hi he ⊢
  refine cond_intro (fun hlt => ?_) fun hge => ?_
  · have hlt := ltI hlt
    rw [add1 hlt hl, Int.toNat_natCast, he, drop_cons _ _ hlt]
    generalize d.blk.getD i default = x
    refine ⟨⟨by omega, by omega⟩, trivial, fun _ => PureW.mk (c43 _), cond_intro (fun h => ?_) fun h => ?_⟩
    · have hb : entBad at_ x = true := h
      simp only [entP, hb, cond_true, cond_false]; exact Wk.refl _
    · have hb : entBad at_ x = false := h
      refine Nx.mk (i + 1, x.to) ⟨hlt, ?_⟩ (by simp only; omega)
      show entP at_ (x :: d.blk.drop (i + 1)) = entP x.to (d.blk.drop (i + 1))
      simp only [entP, hb, cond_false]
  · have := geI hge
    rw [he]
    simp only [List.drop_of_length_le this, entP, cond_true]
    refine ⟨e45 d _ (by omega), ⟨rfl, by simp [regs, roomM]; omega⟩, pw (Wks.cons (Wk.refl _) (Wks.cons (Wk.snocL (x := (⟨0, 4⟩ : Rg))) Wks.nil)) (c44 _ _ (by simp) (by simp [regs]; omega)), Wk.refl _⟩

/-! the law -/
theorem sect_pos {n : Int} (h : 1 ≤ n) (k : n ≤ 16384) : 1 ≤ sect n ∧ sect n ≤ 256 := by
  unfold sect
  have : decide (n < 1) = false := by simp; omega
  rw [this, cond_false, sub64 (by omega) (by omega)]
  have hq : quoI .i64 (n - 1) 64 = (n - 1) / 64 := by
    unfold quoI
    rw [Int.tdiv_eq_ediv_of_nonneg (by omega)]
    exact IntWalk.i64_in _ ⟨by omega, by omega⟩
  rw [hq, add64 (by omega) (by omega)]; omega
theorem fits_iff (x : Xt) : fits x = true ↔ 1 ≤ x.len ∧ x.len ≤ 16384 ∧ 0 ≤ x.sum ∧ x.sum < 4294967296 ∧ 4 ≤ x.sec ∧ x.sec < 1024 ∧ sect x.len ≤ 1024 - x.sec := by
  unfold fits
  simp
  constructor
  · rintro ⟨⟨⟨⟨⟨⟨a, b⟩, c⟩, d⟩, e⟩, f⟩, g⟩
    rw [sub64 (by omega) (by omega)] at g
    exact ⟨a, b, c, d, e, f, g⟩
  · rintro ⟨a, b, c, d, e, f, g⟩
    rw [sub64 (by omega) (by omega)]
    exact ⟨⟨⟨⟨⟨⟨a, b⟩, c⟩, d⟩, e⟩, f⟩, g⟩
theorem fitsR_iff (x : Xt) : (fitsR x).2 = true ↔ fits x = true := by
  rw [fits_iff]
  unfold fitsR
  cases hc : (bif bif bif bif bif decide (x.len < 1) then true else decide (x.len > 16384) then true else decide (x.sum < 0) then true else decide (x.sum ≥ 4294967296) then true else decide (x.sec < 4) then true else decide (x.sec > 1024)) with
  | true =>
    simp only [cond_true]
    simp at hc
    exact ⟨fun h => (by cases h), fun ⟨a, b, c, d, e, f, g⟩ => by omega⟩
  | false =>
    simp only [cond_false]
    simp at hc
    obtain ⟨⟨⟨⟨⟨a, b⟩, c⟩, d⟩, e⟩, f⟩ := hc
    have := sect_pos a b
    rw [add64 (by omega) (by omega)]
    simp
    omega
theorem fitsR_reg {x : Xt} (h : fits x = true) : (fitsR x).1 = regOf x := by
  rw [fits_iff] at h
  obtain ⟨a, b, c, d, e, f, g⟩ := h
  unfold fitsR
  have : (bif bif bif bif bif decide (x.len < 1) then true else decide (x.len > 16384) then true else decide (x.sum < 0) then true else decide (x.sum ≥ 4294967296) then true else decide (x.sec < 4) then true else decide (x.sec > 1024)) = false := by
    simp; omega
  rw [this]; rfl
theorem reg_fit {x : Xt} (h : fits x = true) : fitN 1024 (regOf x) ∧ 4 ≤ (regOf x).frm := by
  rw [fits_iff] at h
  obtain ⟨a, b, c, d, e, f, g⟩ := h
  have := sect_pos a b
  exact ⟨⟨by simp [regOf]; omega, f, this.1, g⟩, e⟩
theorem entP_iff : ∀ (l : List Ent) (at_ : Int), entP at_ l = true ↔ entOk at_ l = true ∧ ∀ e ∈ l, fits e.plc = true
  | [], _ => by simp [entP, entOk]
  | x :: r, at_ => by
    have ih := entP_iff r x.to
    unfold entP entOk
    have key : entBad at_ x = false ↔ fits x.plc = true ∧ (bif bif x.frm != at_ then true else decide (x.to ≤ x.frm) then true else decide (x.to > 1099511627776)) = false ∧
        (bif !bif bif x.lvl == 1 then decide (x.stp ≥ 1) else false then decide (x.stp ≤ 1099511627776) else false then bif bif x.lvl != 0 then x.lvl != 2 else false then true else x.stp != 0 else false) = false := by
      unfold entBad
      cases fits x.plc with
      | false => simp
      | true =>
        by_cases h1 : x.lvl = 1
        · simp [h1] <;> omega
        · simp [h1] <;> omega
    cases hb : entBad at_ x with
    | true =>
      simp only [cond_true]
      refine ⟨fun h => (by cases h), fun ⟨h1, h2⟩ => ?_⟩
      have hf := h2 x (by simp)
      have : entBad at_ x = false := by
        rw [key]
        refine ⟨hf, ?_, ?_⟩
        · cases h3 : (bif bif x.frm != at_ then true else decide (x.to ≤ x.frm) then true else decide (x.to > 1099511627776)) with
          | false => rfl
          | true => rw [h3] at h1; cases h1
        · cases h3 : (bif bif x.frm != at_ then true else decide (x.to ≤ x.frm) then true else decide (x.to > 1099511627776)) with
          | true => rw [h3] at h1; cases h1
          | false =>
            rw [h3, cond_false] at h1
            generalize (bif !bif bif x.lvl == 1 then decide (x.stp ≥ 1) else false then decide (x.stp ≤ 1099511627776) else false then bif bif x.lvl != 0 then x.lvl != 2 else false then true else x.stp != 0 else false) = q at h1 ⊢
            cases q with
            | false => rfl
            | true => cases h1
      rw [this] at hb; cases hb
    | false =>
      obtain ⟨h1, h2, h3⟩ := key.1 hb
      rw [h2, h3]
      simp only [cond_false, ih, List.mem_cons]
      exact ⟨fun ⟨a, b⟩ => ⟨a, fun e he => by rcases he with rfl | he; exact h1; exact b e he⟩, fun ⟨a, b⟩ => ⟨a, fun e he => b e (.inr he)⟩⟩
theorem okR_iff (d : Dir) : okR d = true ↔ fits d.hdr = true ∧ ∀ e ∈ d.blk, fits e.plc = true := by
  simp only [okR, Bool.and_eq_true, List.all_eq_true, fitsR_iff]
  exact ⟨fun ⟨a, b⟩ => ⟨b, a⟩, fun ⟨a, b⟩ => ⟨b, a⟩⟩
theorem regsR_eq {d : Dir} (h : fits d.hdr = true) (k : ∀ e ∈ d.blk, fits e.plc = true) : regsR d = regs d := by
  simp only [regsR, regs, fitsR_reg h, List.cons.injEq, true_and]
  exact List.map_congr_left fun e he => fitsR_reg (k e he)
theorem alloc_root {l : List Rg} (h : ∀ x ∈ l, fitN 1024 x ∧ 4 ≤ x.frm) : allocOk 1024 (l ++ [⟨0, 4⟩]) ↔ allocOk 1024 l := by
  unfold allocOk
  rw [List.pairwise_append]
  constructor
  · rintro ⟨a, b, c, d, _⟩; exact ⟨a, b, fun x hx => c x (by simp [hx]), d⟩
  · rintro ⟨a, b, c, d⟩
    refine ⟨a, b, fun x hx => ?_, d, by simp, fun x hx y hy => ?_⟩
    · rcases List.mem_append.1 hx with h1 | h1
      · exact c x h1
      · simp at h1; subst h1; exact ⟨by decide, by decide, by decide, by decide⟩
    · simp at hy; subst hy
      exact apart_symm (apart_of_le (by have := (h x hx).2; show (0 : Int) + 4 ≤ x.frm; omega))
theorem dirOk_eq (d : Dir) : dirOkR d = dirOk d := by
  rw [Bool.eq_iff_iff]
  unfold dirOkR dirOk
  cases hf : fits d.hdr with
  | false =>
    have : okR d = false := by
      cases h : okR d with
      | false => rfl
      | true => rw [okR_iff, hf] at h; cases h.1
    simp [this]
  | true =>
    by_cases hl : d.blk.length ≤ 32
    · have h1 : decide ((d.blk.length : Int) > 32) = false := by simp; omega
      simp only [hl, decide_true, Bool.true_and, h1, Bool.not_true, cond_false, Bool.and_eq_true]
      cases hp : entP (-1) d.blk with
      | false =>
        simp only [cond_false]
        refine ⟨fun ⟨⟨a, b⟩, c⟩ => ?_, fun h => (by cases h)⟩
        have : entP (-1) d.blk = true := (entP_iff _ _).2 ⟨c, ((okR_iff d).1 a).2⟩
        rw [hp] at this; cases this
      | true =>
        obtain ⟨e1, e2⟩ := (entP_iff _ _).1 hp
        simp only [cond_true, spV_iff, marks_iff, regsR_eq hf e2]
        rw [alloc_root]
        · exact ⟨fun ⟨⟨a, b⟩, c⟩ => b, fun h => ⟨⟨(okR_iff d).2 ⟨hf, e2⟩, h⟩, e1⟩⟩
        · intro x hx
          simp only [regs, List.mem_cons, List.mem_map] at hx
          rcases hx with rfl | ⟨e, he, rfl⟩
          · exact reg_fit hf
          · exact reg_fit (e2 e he)
    · have h1 : decide ((d.blk.length : Int) > 32) = true := by simp; omega
      simp [hl, h1]
end Go.Proofs.Ytmlhaikblfjghaa.S1
