/- Numbers read: strconv's ParseInt, and the law. -/
import Derived.Test.YtpcbjkjgjoemaaaGreatDoorCCD5
namespace Go.Proofs.YtpcbjkjgjoemaaaGreatDoor.S1
open Go Go.Ab Go.Proofs
theorem figV {b : Nat} {c : UInt8} (h : figB b c = true) : digV c < b ∧ ((48 ≤ c.toNat ∧ c.toNat ≤ 57 ∧ digV c = c.toNat - 48) ∨ (97 ≤ c.toNat ∧ c.toNat ≤ 102 ∧ digV c = c.toNat - 87 ∧ orI .u8 (c.toNat : Int) 32 = (c.toNat : Int))) := by
  unfold figB at h
  obtain ⟨h1, h2⟩ := of_decide_eq_true h
  refine ⟨h2, ?_⟩
  rcases h1 with h1 | h1
  · left
    refine ⟨h1.1, h1.2, ?_⟩
    unfold digV; rw [if_pos h1.2]
  · right
    refine ⟨h1.1, h1.2, ?_, ?_⟩
    · unfold digV; rw [if_neg (by omega)]
    · have : c.toNat = 97 ∨ c.toNat = 98 ∨ c.toNat = 99 ∨ c.toNat = 100 ∨ c.toNat = 101 ∨ c.toNat = 102 := by omega
      rcases this with e | e | e | e | e | e <;> rw [e] <;> decide
theorem puR {b n d cut : Nat} {x : Int} (hb : 2 ≤ b ∧ b ≤ 16) (hx : x = d) (hd : d < b) (hv : b * n + d < 4611686018427387904) (hcut : ∀ n, b * n < 4611686018427387904 → n < cut) {A B C : Prop} (h : addI .u64 (mulI .u64 (n : Int) (IntKind.u64.wrap (b : Int))) (IntKind.u64.wrap x) = ((b * n + d : Nat) : Int) → C) :
    bif decide (x ≥ IntKind.u8.wrap (b : Int)) then A else bif decide ((n : Int) ≥ (cut : Int)) then B else bif bif decide (addI .u64 (mulI .u64 (n : Int) (IntKind.u64.wrap (b : Int))) (IntKind.u64.wrap x) < mulI .u64 (n : Int) (IntKind.u64.wrap (b : Int))) then true else decide (addI .u64 (mulI .u64 (n : Int) (IntKind.u64.wrap (b : Int))) (IntKind.u64.wrap x) > 18446744073709551615) then B else C := by
  rw [hx] at h ⊢
  have e1 : IntKind.u8.wrap (b : Int) = (b : Int) := IntWalk.u8_in _ ⟨by omega, by omega⟩
  have e2 : IntKind.u64.wrap (b : Int) = (b : Int) := IntWalk.u64_in _ ⟨by omega, by omega⟩
  have e3 : IntKind.u64.wrap (d : Int) = (d : Int) := IntWalk.u64_in _ ⟨by omega, by omega⟩
  have hn := hcut n (by omega)
  have e4 : mulI .u64 (n : Int) (b : Int) = ((b * n : Nat) : Int) := by
    have : (n : Int) * (b : Int) = ((b * n : Nat) : Int) := by rw [Nat.mul_comm]; rfl
    unfold mulI
    rw [this]
    exact IntWalk.u64_in _ ⟨by omega, by omega⟩
  have e5 : addI .u64 ((b * n : Nat) : Int) (d : Int) = ((b * n + d : Nat) : Int) := by
    have : ((b * n : Nat) : Int) + (d : Int) = ((b * n + d : Nat) : Int) := rfl
    unfold addI
    rw [this]
    exact IntWalk.u64_in _ ⟨by omega, by omega⟩
  rw [e2, e3, e4, e5] at h
  rw [e1, e2, e3, e4, e5, decide_eq_false (by omega), decide_eq_false (by omega), decide_eq_false (by omega), decide_eq_false (by omega)]
  exact h rfl
theorem puL [Lay] (q : Str) (b cut : Nat) (hb : 2 ≤ b ∧ b ≤ 16) (hf : q.all (figB b) = true) (hv : parR b 0 q < 4611686018427387904) (hcut : ∀ n, b * n < 4611686018427387904 → n < cut) (hlm : q.length ≤ lenM) :
    At (En Tryz.f96) (fi Tryz.f96 fun d => Wk d (.tup [.int .u64 (parR b 0 q : Nat), .nili])) [.code [1, 1, 1, 1, 1, 1, 1, 1, 1, 1, 1, 0, 1, 0], .blk 3, .code [1, 1, 1, 1, 1, 1, 1, 1, 1, 1, 1, 1]] (SPU q b cut 0 0) := by
  refine lp (fn := Tryz.f96) (fun z : Nat × Nat => z.1 ≤ q.length ∧ parR b 0 q = parR b z.2 (q.drop z.1)) (fun z => SPU q b cut (z.2 : Nat) (z.1 : Nat)) (fun z => q.length - z.1) [1, 8, 9, 10, 11, 12, 13, 99, 100, 101] (by kernel_rfl) (fun z hz => of_eq (nPUa q b cut (z.2 : Nat) (z.1 : Nat) _ _) ?_) (0, 0) ⟨Nat.zero_le _, rfl⟩
  obtain ⟨i, n⟩ := z
  obtain ⟨hi, he⟩ := hz
  simp only at hi he ⊢
  refine cond_intro (fun hlt => ?_) fun hge => ?_
  · have hlt := ltI hlt
    rw [drop_cons _ _ hlt, parR] at he
    have hc : figB b (q.getD i default) = true := List.all_eq_true.1 hf _ (by rw [List.getD_eq_getElem?_getD, List.getElem?_eq_getElem hlt]; exact List.getElem_mem hlt)
    rw [add1 hlt hlm, Int.toNat_natCast]
    generalize q.getD i default = c at hc he ⊢
    obtain ⟨h1, h2⟩ := figV hc
    have hge := parR_ge b (by omega) (q.drop (i + 1)) (b * n + digV c)
    refine ⟨⟨by omega, by omega⟩, cond_intro (fun h => by cases hx : ((c.toNat : Int) == 95) <;> rw [hx] at h <;> cases h) fun _ => ?_⟩
    have hJ : ∀ y : Int, y = ((b * n + digV c : Nat) : Int) → Nx (En Tryz.f96).nt (fun z : Nat × Nat => z.1 ≤ q.length ∧ parR b 0 q = parR b z.2 (q.drop z.1)) (fun z => SPU q b cut (z.2 : Nat) (z.1 : Nat)) (fun z => q.length - z.1) (q.length - i) (SPU q b cut y ((i + 1 : Nat) : Int)) := fun y hy => by
      subst hy
      exact Nx.mk (i + 1, b * n + digV c) ⟨hlt, he⟩ (by simp only; omega)
    rcases h2 with ⟨g1, g2, g3⟩ | ⟨g1, g2, g3, g4⟩
    · rw [decide_eq_true (show (48 : Int) ≤ (c.toNat : Int) by omega), decide_eq_true (show (c.toNat : Int) ≤ 57 by omega)]
      have e0 : subI .u8 (c.toNat : Int) 48 = ((digV c : Nat) : Int) := by
        unfold subI
        rw [IntWalk.u8_in _ ⟨by omega, by omega⟩]; omega
      exact puR hb e0 h1 (by omega) hcut fun e => by rw [e]; exact hJ _ rfl
    · have hlow := c143 c
      rw [g4] at hlow
      have e0 : addI .u8 (subI .u8 (c.toNat : Int) 97) 10 = ((digV c : Nat) : Int) := by
        unfold subI addI
        rw [IntWalk.u8_in ((c.toNat : Int) - 97) ⟨by omega, by omega⟩, IntWalk.u8_in _ ⟨by omega, by omega⟩]; omega
      rw [decide_eq_false (show ¬ (c.toNat : Int) ≤ 57 by omega), decide_eq_true (show (48 : Int) ≤ (c.toNat : Int) by omega), g4, decide_eq_true (show (97 : Int) ≤ (c.toNat : Int) by omega), decide_eq_true (show (c.toNat : Int) ≤ 122 by omega)]
      exact ⟨PureW.mk hlow, fun _ => PureW.mk hlow, PureW.mk hlow, puR hb e0 h1 (by omega) hcut fun e => by rw [e]; exact hJ _ rfl⟩
  · rw [List.drop_of_length_le (geI hge), parR] at he
    rw [he]
    exact ⟨fun h => (by cases h), Wk.refl _⟩
instance : DD .nili := ⟨trivial⟩
theorem cut2 : addI .u64 (quoI .u64 18446744073709551615 (IntKind.u64.wrap 2)) 1 = ((9223372036854775808 : Nat) : Int) := by decide
theorem max64 : subI .u64 (shlI .u64 1 (IntKind.u64.wrap 64)) 1 = 18446744073709551615 := by decide
theorem qNe {q : Str} (h : q ≠ []) : (q == ({ data := #[] : ByteArray }.data.toList : Str)) = false := by
  cases q with
  | nil => exact absurd rfl h
  | cons c r => rfl
theorem c96 [Lay] (q : Str) (b : Nat) (hb : b = 2 ∨ b = 10 ∨ b = 16) (h0 : q ≠ []) (hf : q.all (figB b) = true) (hv : parR b 0 q < 4611686018427387904) : Pure PP 96 [.str q, I b, I 64] (.tup [.int .u64 (parR b 0 q : Nat), .nili]) := by
  rcases hb with rfl | rfl | rfl
  · refine pu F96 (by kernel_rfl) (of_eq (nPU2 q _) ?_)
    rw [qNe h0, cut2, max64]
    exact ⟨by decide, by decide, fun hlm => puL q 2 9223372036854775808 (by decide) hf hv (fun n h => by omega) hlm⟩
  · refine pu F96 (by kernel_rfl) (of_eq (nPU10 q _) ?_)
    rw [qNe h0, max64]
    exact ⟨by decide, fun hlm => puL q 10 1844674407370955162 (by decide) hf hv (fun n h => by omega) hlm⟩
  · refine pu F96 (by kernel_rfl) (of_eq (nPU16 q _) ?_)
    rw [qNe h0, max64]
    exact ⟨by decide, fun hlm => puL q 16 1152921504606846976 (by decide) hf hv (fun n h => by omega) hlm⟩
theorem head_fig {q : Str} {b : Nat} (h0 : q ≠ []) (hf : q.all (figB b) = true) : 48 ≤ (q.getD 0 0).toNat := by
  cases q with
  | nil => exact absurd rfl h0
  | cons c r =>
    rw [List.all_cons, Bool.and_eq_true] at hf
    obtain ⟨_, h | h⟩ := figV hf.1
    · exact h.1
    · show 48 ≤ c.toNat; omega
theorem c46 [Lay] (q : Str) (b : Nat) (hb : b = 2 ∨ b = 10 ∨ b = 16) (h0 : q ≠ []) (hf : q.all (figB b) = true) (hv : parR b 0 q < 4611686018427387904) : Pure PP 46 [.str q, I b, I 64] (.tup [I (parR b 0 q : Nat), .nili]) := by
  refine pu F46 (by kernel_rfl) (of_eq (nPI q b _) ?_)
  have h48 := head_fig h0 hf
  have hl := List.length_pos_iff.2 h0
  rw [qNe h0]
  refine ⟨⟨by omega, by omega⟩, cond_intro (fun h => ?_) fun _ => cond_intro (fun h => ?_) fun _ => ?_⟩
  · have := eq_of_beq h; omega
  · have := eq_of_beq h; omega
  · have e1 : shlI .u64 1 (IntKind.u64.wrap (subI .i64 64 1)) = 9223372036854775808 := by decide
    refine runS_sound hmix _ _ _ (of_eq (nPI2 q b _) ⟨PureW.mk (by have := c96 q b hb h0 hf hv; exact this), by decide, ?_⟩)
    rw [e1, Int.toNat_natCast, decide_eq_false (by omega), IntWalk.i64_in ((parR b 0 q : Nat) : Int) ⟨by omega, by omega⟩]
    exact Wk.refl _
theorem c17 [Lay] (q : Str) (b : Nat) (hb : b = 2 ∨ b = 10 ∨ b = 16) (h0 : q ≠ []) (hf : q.all (figB b) = true) (hv : parR b 0 q < 4611686018427387904) : Pure PP 17 [.str q, I b, I 64] (.tup [I (parR b 0 q : Nat), .nili]) :=
  pu F17 (by kernel_rfl) (of_eq (nPS q b _) ⟨PureW.mk (c46 q b hb h0 hf hv), Wk.refl _⟩)
theorem c4 [Lay] (q : Str) : Pure PP 4 [.str q] (B true) := by
  have e01 : ({ data := #[48, 49] : ByteArray }.data.toList : Str) = [48, 49] := rfl
  refine pu F4 (by kernel_rfl) (of_eq (nlD q _) fun hlm => fun _ => ⟨fun _ => PureW.mk (ctrimC _ _ hlm (by rw [e01]; simp) (fun b hb => by rw [e01] at hb; simp at hb; rcases hb with rfl | rfl <;> decide) (Nat.le_trans (trim_len _ _) hlm)), cond_intro (fun _ => ⟨PureW.mk c11, Wk.refl _⟩) fun h => ?_⟩)
  have hb : 1 ≤ q.length ∧ q.length ≤ 62 ∧ trimC q [48, 49] = [] := by
    rw [e01] at h
    by_cases h1 : (q.length : Int) < 1
    · rw [decide_eq_true h1] at h; cases h
    by_cases h2 : (q.length : Int) > 62
    · rw [decide_eq_true h2, decide_eq_false h1] at h; cases h
    rw [decide_eq_false h1, decide_eq_false h2] at h
    refine ⟨by omega, by omega, ?_⟩
    simpa using h
  obtain ⟨l1, l2, ht⟩ := hb
  have h0 : q ≠ [] := List.length_pos_iff.1 (by omega)
  have hall : q.all bit01 = true := by rw [← trimC_01, ht]; rfl
  have hxz : q.all xz01.contains = true := by
    rw [List.all_eq_true] at hall ⊢
    intro c hc
    have := hall c hc
    simp only [bit01, Bool.or_eq_true, beq_iff_eq] at this
    rcases this with rfl | rfl <;> decide
  have n1 : numR q 1 = hexT q := by
    unfold numR
    rw [if_neg (by rw [hxz]; simp [h0]; omega), if_neg (by decide), if_pos rfl]
  have n2 : numR q 2 = decR q := by
    unfold numR
    rw [if_neg (by rw [hxz]; simp [h0]; omega), if_neg (by decide), if_neg (by decide), if_pos rfl, if_neg (sameR_bit h0 hall), if_pos hall]
  have hv : binF 0 q < 4611686018427387904 := Nat.lt_of_lt_of_le (binF_lt2 q 0 0 hall (by decide)) (by
    have : 2 ^ (0 + q.length) ≤ 2 ^ 62 := Nat.pow_le_pow_right (by decide) (by omega)
    simpa using this)
  have p2 := par2 q 0 hall
  obtain ⟨p16, f16⟩ := parH h0 hall
  obtain ⟨p10, f10⟩ := parDec hall
  rw [show Int.toNat 2 = 2 from rfl, show Int.toNat 16 = 16 from rfl, show Int.toNat 10 = 10 from rfl, n1, n2, p2, p16, p10]
  have k2 := c17 q 2 (.inl rfl) h0 (fig2 hall) (by rw [p2]; exact hv)
  have k16 := c17 (hexT q) 16 (.inr (.inr rfl)) (hexT_ne h0) f16 (by rw [p16]; exact hv)
  have k10 := c17 (decR q) 10 (.inr (.inl rfl)) (decR_ne q) f10 (by rw [p10]; exact hv)
  have m1 := c18 q 1 (by omega)
  have m2 := c18 q 2 (by omega)
  rw [n1] at m1
  rw [n2] at m2
  rw [p2] at k2
  rw [p16] at k16
  rw [p10] at k10
  refine ⟨PureW.mk k2, PureW.mk m1, PureW.mk k16, PureW.mk m2, PureW.mk k10, fun _ => PureW.mk c11, ?_⟩
  rw [beq_self_eq_true]; exact Wk.refl _
end Go.Proofs.YtpcbjkjgjoemaaaGreatDoor.S1
