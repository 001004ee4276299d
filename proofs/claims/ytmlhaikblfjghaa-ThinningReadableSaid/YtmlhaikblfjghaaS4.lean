/- Seat 1: the reference's marks. -/
import Derived.Test.YtmlhaikblfjghaaS3
namespace Go.Proofs.Ytmlhaikblfjghaa.S1
open Go Go.Ab Go.Proofs

def fitN (n : Int) (x : Rg) : Prop := 0 ≤ x.frm ∧ x.frm < n ∧ 1 ≤ x.cnt ∧ x.cnt ≤ n - x.frm
def hit (x : Rg) (k : Int) : Prop := x.frm ≤ k ∧ k < x.frm + x.cnt
instance {x : Rg} {k : Int} : Decidable (hit x k) := inferInstanceAs (Decidable (_ ∧ _))
instance {n : Int} {x : Rg} : Decidable (fitN n x) := inferInstanceAs (Decidable (_ ∧ _))
def apart (x y : Rg) : Prop := ∀ k, ¬ (hit x k ∧ hit y k)
def allocOk (n : Int) (l : List Rg) : Prop := 0 ≤ n ∧ n ≤ 1024 ∧ (∀ x ∈ l, fitN n x) ∧ l.Pairwise apart
def mrk (l : List Rg) (k : Nat) : Bool := l.any fun x => decide (hit x k)
open Classical in
noncomputable def marks (n : Int) (l : List Rg) : List Bool × Bool := if allocOk n l then ((List.range n.toNat).map (mrk l), true) else ([], false)

theorem F61 : OkF 61 Try.f61 := ⟨by kernel_rfl, by kernel_rfl, by kernel_rfl⟩
def lv61 : List (List Nat × List Nat) := [([1, 1, 1, 0, 1, 0], [0, 1, 6, 7]), ([1, 1, 1, 0, 1, 0, 0, 1, 0, 0, 1, 1, 1, 0], [0, 1, 6, 7, 8, 9])]
def n61s  : List Nat → Nat → Option Ans := scrAt []
theorem n61 (n : Int) (l : List Rg) (K : D → Heap → Prop) : runS (En Try.f61) (fh Try.f61 K) (n61s ) lv61 200 [.code []] ⟨argSlots 0 [I n, L l 2 Rg.d], .empty⟩ =
  (bif bif decide (n < 0) then true else decide (n > 1024) then K (.tup [.list 0 0 (fun x => D.junk) .full, B false]) .empty else (0 ≤ n ∧ n = n ∧ n * ((↑0 : Int) + 1) ≤ (↑roomM : Int)) ∧ At (En Try.f61) (fh Try.f61 K) [It.code [1, 1, 1, 0, 1, 0], It.blk 0, It.code [1, 1, 1, 1]] { sl := [(0, I n), (1, L l 2 Rg.d), (6, D.sl 0 0 n.toNat), (7, I 0)], h := { box := upd (fun x => none) 0 (some (Row.arr (n.toNat * 1) (cellsG 1 fun x => ofVal (Value.bool false)))), nl := 0 + 1, hw := fun x => none, nt := 0 } }) := by kernel_rfl
def H61 (n : Int) (m : Nat → Bool) : Heap := ⟨upd (fun _ => none) 0 (some (.arr n.toNat fun k => B (m k))), 1, fun _ => none, 0⟩
def S61 (n : Int) (l : List Rg) (m : Nat → Bool) (i : Int) : St := ⟨[(0, I n), (1, L l 2 Rg.d), (6, .sl 0 0 n.toNat), (7, I i)], H61 n m⟩
def n61as  : List Nat → Nat → Option Ans := scrAt []
theorem n61a (n : Int) (l : List Rg) (m : Nat → Bool) (i : Int) (J : St → Prop) (K : D → Heap → Prop) : runS (En Try.f61) (fh Try.f61 K) (n61as ) lv61 200 [.code [1, 1, 1, 0, 1, 0, 0], stp [0, 1, 6, 7] J, .blk 0, .code [1, 1, 1, 1]] (S61 n l m i) =
  (l.length ≤ lenM → bif decide (i < (↑l.length : Int)) then (0 ≤ i ∧ i < (↑l.length : Int)) ∧ True ∧ bif bif bif bif decide ((l.getD i.toNat default).frm < 0) then true else decide ((l.getD i.toNat default).frm ≥ n) then true else decide ((l.getD i.toNat default).cnt < 1) then true else decide ((l.getD i.toNat default).cnt > subI .i64 n (l.getD i.toNat default).frm) then K (.tup [.list 0 0 (fun x => D.junk) .full, B false]) { box := upd (fun x => none) 0 (some (Row.arr n.toNat fun k => B (m k))), nl := 1, hw := fun x => none, nt := 0 } else At (En Try.f61) (fh Try.f61 K) [It.code [1, 1, 1, 0, 1, 0, 0, 1, 0, 0, 1, 1, 1, 0], It.blk 2, It.blk 1, It.code [1, 1, 1, 0, 1, 0, 0, 1, 1], stp [0, 1, 6, 7] J, It.blk 0, It.code [1, 1, 1, 1]] { sl := [(0, I n), (1, L l 2 Rg.d), (6, D.sl 0 0 n.toNat), (7, I i), (8, .own [I (l.getD i.toNat default).frm, I (l.getD i.toNat default).cnt]), (9, I (l.getD i.toNat default).frm)], h := { box := upd (fun x => none) 0 (some (Row.arr n.toNat fun k => B (m k))), nl := 1, hw := fun x => none, nt := 0 } } else K (.tup [D.sl 0 0 n.toNat, B true]) { box := upd (fun x => none) 0 (some (Row.arr n.toNat fun k => B (m k))), nl := 1, hw := fun x => none, nt := 0 }) := by kernel_rfl
def T61 (n : Int) (l : List Rg) (i : Int) (m : Nat → Bool) (x : Rg) (k : Int) : St := ⟨[(0, I n), (1, L l 2 Rg.d), (6, .sl 0 0 n.toNat), (7, I i), (8, .own [I x.frm, I x.cnt]), (9, I k)], H61 n m⟩
def n61bs  : List Nat → Nat → Option Ans := scrAt []
theorem n61b (n : Int) (l : List Rg) (m : Nat → Bool) (i k : Int) (x : Rg) (J : St → Prop) (J2 : St → Prop) (K : D → Heap → Prop) : runS (En Try.f61) (fh Try.f61 K) (n61bs ) lv61 200 [.code [1, 1, 1, 0, 1, 0, 0, 1, 0, 0, 1, 1, 1, 0, 0], stp [0, 1, 6, 7, 8, 9] J, .blk 2, .blk 1, .code [1, 1, 1, 0, 1, 0, 0, 1, 1], stp [0, 1, 6, 7] J2, .blk 0, .code [1, 1, 1, 1]] (T61 n l i m x k) =
  (bif decide (k < addI .i64 x.frm x.cnt) then (0 ≤ k ∧ k < (↑n.toNat : Int)) ∧ 0 + k.toNat * 1 < n.toNat ∧ bif m (0 + k.toNat * 1) then K (.tup [.list 0 0 (fun x => D.junk) .full, B false]) { box := upd (fun x => none) 0 (some (Row.arr n.toNat fun k => B (m k))), nl := 1, hw := fun x => none, nt := 0 } else (0 ≤ k ∧ k < (↑n.toNat : Int)) ∧ 0 + k.toNat * 1 + 1 ≤ n.toNat ∧ J { sl := [(0, I n), (1, L l 2 Rg.d), (6, D.sl 0 0 n.toNat), (7, I i), (8, .own [I x.frm, I x.cnt]), (9, I (addI .i64 k 1))], h := { box := upd (upd (fun x => none) 0 (some (Row.arr n.toNat fun k => B (m k)))) 0 (some (Row.arr n.toNat fun i => bif (0 + k.toNat * 1).ble i && i.blt (0 + k.toNat * 1 + 1) then [B true].getD (i - (0 + k.toNat * 1)) D.junk else B (m i))), nl := 1, hw := fun x => none, nt := 0 } } else J2 { sl := [(0, I n), (1, L l 2 Rg.d), (6, D.sl 0 0 n.toNat), (7, I (addI .i64 i 1))], h := { box := upd (fun x => none) 0 (some (Row.arr n.toNat fun k => B (m k))), nl := 1, hw := fun x => none, nt := 0 } }) := by kernel_rfl

theorem getD_mem {α : Type} [Inhabited α] {l : List α} {i : Nat} (h : i < l.length) : l.getD i default ∈ l := by
  rw [getD_list h]; exact List.getElem_mem h
theorem mrk_snoc (l : List Rg) (x : Rg) (k : Nat) : mrk (l ++ [x]) k = (mrk l k || decide (hit x k)) := by simp [mrk]

theorem marks_bad {n : Int} {l : List Rg} {h : Heap} (hb : ¬ allocOk n l) : ∃ h', RetLe (.tup [.list 0 0 (fun _ => .junk) .full, B false]) h (.tup [L (marks n l).1 1 fun b => B b, B (marks n l).2]) h' := by
  unfold marks
  rw [if_neg hb]
  exact ⟨_, RetLe.wk (Wk.tup (Wks.cons Wk.nilL (Wks.refl _))) rfl⟩

theorem c61 (n : Int) (l : List Rg) : Pure PP 61 [I n, L l 2 Rg.d] (.tup [L (marks n l).1 1 fun b => B b, B (marks n l).2]) := by
  refine pr F61 (by kernel_rfl) (of_eq (n61 n l _) (cond_intro (fun h => ?_) fun h => ?_))
  · exact marks_bad fun ha => by
      obtain ⟨a, b, _⟩ := ha
      simp at h; omega
  · have hn : 0 ≤ n ∧ n ≤ 1024 := by simp at h; omega
    clear h
    refine ⟨⟨hn.1, rfl, by simp [roomM]; omega⟩, ?_⟩
    rw [Nat.mul_one]
    refine at_le (st' := S61 n l (mrk (l.take 0)) (0 : Nat)) ?_ (StLe.heapLe (HeapLe.row (RowLe.fn fun i _ => rfl)))
    refine lp (fn := Try.f61) (fun i : Nat => i ≤ l.length ∧ (∀ x ∈ l.take i, fitN n x) ∧ (l.take i).Pairwise apart) (fun i => S61 n l (mrk (l.take i)) i) (fun i => l.length - i) [0, 1, 6, 7] (by kernel_rfl)
      (fun i ⟨hi, hf, hp⟩ => of_eq (n61a n l _ i _ _) fun hl => cond_intro (fun hlt => ?_) fun hge => ?_) 0 ⟨Nat.zero_le _, by simp, by simp⟩
    · have hlt := ltI hlt
      rw [Int.toNat_natCast]
      have hmem := getD_mem hlt
      have htk := take_snoc l i hlt
      generalize l.getD i default = x at hmem htk ⊢
      refine ⟨⟨by omega, by omega⟩, trivial, cond_intro (fun hb => ?_) fun hg => ?_⟩
      · exact marks_bad fun ha => by
          obtain ⟨a, b, c, d⟩ := ha.2.2.1 x hmem
          rw [sub64 (by omega) (by omega)] at hb
          simp at hb; omega
      · have hx : fitN n x := by
          simp at hg
          obtain ⟨⟨⟨a, b⟩, c⟩, d⟩ := hg
          rw [sub64 (by omega) (by omega)] at d
          exact ⟨a, b, c, d⟩
        obtain ⟨x1, x2, x3, x4⟩ := hx
        refine at_le (st' := T61 n l i (fun j => mrk (l.take i) j || decide (x.frm ≤ j ∧ j < x.frm)) x x.frm) ?_ (StLe.heapLe (HeapLe.row (RowLe.fn fun j _ => by simp; omega)))
        refine lp (fn := Try.f61) (fun k : Int => x.frm ≤ k ∧ k ≤ x.frm + x.cnt ∧ ∀ j : Nat, x.frm ≤ j → (j : Int) < k → mrk (l.take i) j = false) (fun k => T61 n l i (fun j => mrk (l.take i) j || decide (x.frm ≤ j ∧ j < k)) x k) (fun k => (x.frm + x.cnt - k).toNat) [0, 1, 6, 7, 8, 9] (by kernel_rfl)
          (fun k ⟨k1, k2, k3⟩ => of_eq (n61b n l _ i k x _ _ _) (cond_intro (fun hk => ?_) fun hk => ?_)) x.frm ⟨Int.le_refl _, by omega, fun j a b => by omega⟩
        · rw [add64 (by omega) (by omega)] at hk
          simp only [decide_eq_true_eq] at hk
          simp only [Nat.zero_add, Nat.mul_one]
          refine ⟨⟨by omega, by omega⟩, by omega, cond_intro (fun hm => ?_) fun hm => ?_⟩
          · refine marks_bad fun ha => ?_
            have hm' : mrk (l.take i) k.toNat = true := by
              simp only [Bool.or_eq_true, decide_eq_true_eq] at hm
              rcases hm with h | h
              · exact h
              · omega
            simp only [mrk, List.any_eq_true, decide_eq_true_eq] at hm'
            obtain ⟨y, hy, hyk⟩ := hm'
            have hpw := ha.2.2.2.sublist (List.take_sublist (i + 1) l)
            rw [htk, List.pairwise_append] at hpw
            exact hpw.2.2 y hy x (by simp) _ ⟨hyk, by unfold hit; omega⟩
          · rw [add64 (by omega) (by omega)]
            refine ⟨⟨by omega, by omega⟩, by omega, Nx.of (k + 1) ⟨by omega, by omega, fun j a b => ?_⟩ (by omega) (StLe.rewr (RowLe.fn fun j hj => ?_))⟩
            · by_cases h1 : (j : Int) < k
              · exact k3 j a h1
              · have : j = k.toNat := by omega
                subst this
                simp at hm; exact hm.1
            · refine (set_cell (f := fun j : Nat => B (mrk (l.take i) j || decide (x.frm ≤ (j : Int) ∧ (j : Int) < k)))).trans ?_
              by_cases hjk : j = k.toNat
              · subst hjk
                rw [if_pos rfl]
                have : decide (x.frm ≤ (k.toNat : Int) ∧ (k.toNat : Int) < k + 1) = true := by simp; omega
                show B true = B (mrk (l.take i) k.toNat || decide (x.frm ≤ (k.toNat : Int) ∧ (k.toNat : Int) < k + 1))
                rw [this, Bool.or_true]
              · rw [if_neg hjk]
                have : decide (x.frm ≤ (j : Int) ∧ (j : Int) < k) = decide (x.frm ≤ (j : Int) ∧ (j : Int) < k + 1) := by
                  rw [Bool.eq_iff_iff]; simp; omega
                show B (mrk (l.take i) j || decide (x.frm ≤ (j : Int) ∧ (j : Int) < k)) = B (mrk (l.take i) j || decide (x.frm ≤ (j : Int) ∧ (j : Int) < k + 1))
                rw [this]
        · rw [add64 (by omega) (by omega)] at hk
          simp only [decide_eq_false_iff_not] at hk
          have hkk : k = x.frm + x.cnt := by omega
          subst hkk
          rw [add1 hlt hl]
          have hap : ∀ y ∈ l.take i, apart y x := fun y hy q ⟨h1, h2⟩ => by
            have hfy := hf y hy
            unfold fitN at hfy
            unfold hit at h1 h2
            have := k3 q.toNat (by omega) (by omega)
            simp only [mrk, List.any_eq_false, decide_eq_true_eq] at this
            exact this y hy (by unfold hit; omega)
          refine Nx.of (i + 1) ⟨by omega, ?_, ?_⟩ (by omega) (StLe.heapLe (HeapLe.row (RowLe.fn fun j hj => ?_)))
          · rw [htk]
            intro y hy
            rcases List.mem_append.1 hy with h | h
            · exact hf y h
            · simp at h; subst h; exact ⟨x1, x2, x3, x4⟩
          · rw [htk, List.pairwise_append]
            exact ⟨hp, by simp, fun y hy z hz => by simp at hz; subst hz; exact hap y hy⟩
          · rw [htk, mrk_snoc]; rfl
    · have hge := geI hge
      have hd : l.take i = l := List.take_of_length_le hge
      rw [hd] at hf hp
      have hok : allocOk n l := ⟨hn.1, hn.2, hf, hp⟩
      unfold marks
      rw [if_pos hok, hd]
      refine ⟨_, (RetLe.layTup (sz := 1) (m := n.toNat) (n := n.toNat) (cg := fun k => B (mrk l k)) (get := fun k => B (mrk l k)) rfl (by omega) (ElemsOf.one fun k hk => ⟨rfl, rfl, rfl, by simp⟩)).trans (RetLe.wk (Wk.tup (Wks.cons (Wk.toL (by simp) (.inl rfl) fun i hi => ?_) (Wks.refl _))) rfl)⟩
      simp

end Go.Proofs.Ytmlhaikblfjghaa.S1
