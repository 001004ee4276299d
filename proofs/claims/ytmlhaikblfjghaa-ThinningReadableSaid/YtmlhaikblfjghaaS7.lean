/- Seat 1: valid allocations. -/
import Derived.Test.YtmlhaikblfjghaaS6
namespace Go.Proofs.Ytmlhaikblfjghaa.S1
open Go Go.Ab Go.Proofs
theorem F58 : OkF 58 Try.f58 := ⟨by kernel_rfl, by kernel_rfl, by kernel_rfl⟩
def lv58 : List (List Nat × List Nat) := []
noncomputable def n58s (l : List Rg) : List Nat → Nat → Option Ans := scrAt [([1, 0], 1, Ans.eff (D.sl Heap.empty.nl 0 l.length) { box := upd Heap.empty.box Heap.empty.nl (some (Row.arr (l.length * 2) (cellsG 2 fun i => (l.getD i default).d))), nl := Heap.empty.nl + 1, hw := Heap.empty.hw, nt := Heap.empty.nt }), ([1, 1, 0], 1, Ans.eff (.tup []) { box := upd (fun x => none) 0 (some (Row.arr ((srt l).length * 2) (cellsG 2 fun i => ((srt l).getD i default).d))), nl := 1, hw := fun x => none, nt := 0 })]
theorem n58 (l : List Rg) (K : D → Heap → Prop) : runS (En Try.f58) (fh Try.f58 K) (n58s l) lv58 200 [.code []] ⟨argSlots 0 [L l 2 Rg.d], .empty⟩ =
  (Does PP 62 [L l 2 Rg.d] Heap.empty (D.sl Heap.empty.nl 0 l.length) { box := upd Heap.empty.box Heap.empty.nl (some (Row.arr (l.length * 2) (cellsG 2 fun i => (l.getD i default).d))), nl := Heap.empty.nl + 1, hw := Heap.empty.hw, nt := Heap.empty.nt } ∧ Does PP 63 [D.sl 0 0 l.length, D.clo 64 []] { box := upd (fun x => none) 0 (some (Row.arr (l.length * 2) (cellsG 2 fun i => (l.getD i default).d))), nl := 1, hw := fun x => none, nt := 0 } (.tup []) { box := upd (fun x => none) 0 (some (Row.arr ((srt l).length * 2) (cellsG 2 fun i => ((srt l).getD i default).d))), nl := 1, hw := fun x => none, nt := 0 } ∧ K (D.sl 0 0 l.length) { box := upd (fun x => none) 0 (some (Row.arr ((srt l).length * 2) (cellsG 2 fun i => ((srt l).getD i default).d))), nl := 1, hw := fun x => none, nt := 0 }) := by kernel_rfl
theorem c58 (l : List Rg) (hne : l ≠ []) (hl : l.length ≤ 1000000) : Pure PP 58 [L l 2 Rg.d] (L (srt l) 2 Rg.d) := by
  refine pr F58 (by kernel_rfl) (of_eq (n58 l _) ⟨e62 l _ hne hl, e63 l hne hl _ _ _ _ _, ⟨_, (RetLe.lay (sz := 2) (n := l.length) (get := fun i => Rg.d ((srt l).getD i default)) rfl (by rw [srt_len]; exact Nat.le_refl _) (ElemsOf.cells fun k _ => ⟨rfl, rfl, rfl⟩)).trans (RetLe.wk ?_ rfl)⟩⟩)
  rw [← srt_len]; exact Wk.refl _

def goOk (n at_ : Int) : List Rg → Bool
  | [] => true
  | x :: r => bif bif bif bif decide (x.frm < at_) then true else decide (x.cnt < 1) then true else decide (x.frm > n) then true else decide (x.cnt > subI .i64 n x.frm) then false else goOk n (addI .i64 x.frm x.cnt) r
def spV (n : Int) (l : List Rg) : Bool := bif bif decide (n < 0) then true else decide (n > 1024) then false else goOk n 0 (srt l)
theorem F44 : OkF 44 Try.f44 := ⟨by kernel_rfl, by kernel_rfl, by kernel_rfl⟩
def lv44 : List (List Nat × List Nat) := [([1, 1, 1, 0, 1, 0], [0, 5, 15, 16, 17])]
noncomputable def n44s (l : List Rg) : List Nat → Nat → Option Ans := scrAt [([1, 1, 1, 0, 0], 1, Ans.pure [L l 2 Rg.d] (L (srt l) 2 Rg.d))]
theorem n44 (n : Int) (l : List Rg) (K : D → Prop) : runS (En Try.f44) (fi Try.f44 K) (n44s l) lv44 200 [.code []] ⟨argSlots 0 [I n, L l 2 Rg.d], .empty⟩ =
  (bif bif decide (n < 0) then true else decide (n > 1024) then K (B false) else PureW PP 58 [L l 2 Rg.d] [L l 2 Rg.d] (L (srt l) 2 Rg.d) ∧ ((srt l).length ≤ lenM → At (En Try.f44) (fi Try.f44 K) [It.code [1, 1, 1, 0, 1, 0], It.blk 0, It.code [1, 1, 1, 1]] { sl := [(0, I n), (5, I 0), (15, L (srt l) 2 Rg.d), (16, I (↑(srt l).length : Int)), (17, I 0)], h := Heap.empty })) := by kernel_rfl
def S44 (n at_ : Int) (q : List Rg) (i : Int) : St := ⟨[(0, I n), (5, I at_), (15, L q 2 Rg.d), (16, I q.length), (17, I i)], .empty⟩
noncomputable def n44as  : List Nat → Nat → Option Ans := scrAt []
theorem n44a (n at_ : Int) (q : List Rg) (i : Int) (J : St → Prop) (K : D → Prop) : runS (En Try.f44) (fi Try.f44 K) (n44as ) lv44 200 [.code [1, 1, 1, 0, 1, 0, 0], stp [0, 5, 15, 16, 17] J, .blk 0, .code [1, 1, 1, 1]] (S44 n at_ q i) =
  (bif decide (i < (↑q.length : Int)) then (0 ≤ i ∧ i < (↑q.length : Int)) ∧ True ∧ bif bif bif bif decide ((q.getD i.toNat default).frm < at_) then true else decide ((q.getD i.toNat default).cnt < 1) then true else decide ((q.getD i.toNat default).frm > n) then true else decide ((q.getD i.toNat default).cnt > subI .i64 n (q.getD i.toNat default).frm) then K (B false) else J { sl := [(0, I n), (5, I (addI .i64 (q.getD i.toNat default).frm (q.getD i.toNat default).cnt)), (15, L q 2 Rg.d), (16, I (↑q.length : Int)), (17, I (addI .i64 i 1))], h := Heap.empty } else K (B true)) := by kernel_rfl
theorem c44 (n : Int) (l : List Rg) (hne : l ≠ []) (hl : l.length ≤ 1000000) : Pure PP 44 [I n, L l 2 Rg.d] (B (spV n l)) := by
  refine pu F44 (by kernel_rfl) (of_eq (n44 n l _) (cond_intro (fun h => by simp only [spV, h, cond_true]; exact Wk.refl _) fun h => ⟨PureW.mk (c58 l hne hl), fun hq => ?_⟩))
  have hs : spV n l = goOk n 0 (srt l) := by simp only [spV, h, cond_false]
  rw [hs]
  generalize srt l = q at hq ⊢
  refine lp (fn := Try.f44) (fun x : Nat × Int => x.1 ≤ q.length ∧ goOk n 0 q = goOk n x.2 (q.drop x.1)) (fun x => S44 n x.2 q x.1) (fun x => q.length - x.1) [0, 5, 15, 16, 17] (by kernel_rfl) (fun x hx => of_eq (n44a n x.2 q x.1 _ _) ?_) (0, 0) ⟨Nat.zero_le _, rfl⟩
  obtain ⟨i, at_⟩ := x
  obtain ⟨hi, he⟩ := hx
  simp only at hi he ⊢
  refine cond_intro (fun hlt => ?_) fun hge => ?_
  · have hlt := ltI hlt
    rw [add1 hlt hq, Int.toNat_natCast, he, drop_cons _ _ hlt]
    generalize q.getD i default = x
    refine ⟨⟨by omega, by omega⟩, trivial, cond_intro (fun h => ?_) fun h => ?_⟩
    · simp only [goOk, h, cond_true]; exact Wk.refl _
    · refine Nx.mk (i + 1, addI .i64 x.frm x.cnt) ⟨hlt, ?_⟩ (by simp only; omega)
      show goOk n at_ (x :: q.drop (i + 1)) = goOk n (addI .i64 x.frm x.cnt) (q.drop (i + 1))
      simp only [goOk, h, cond_false]
  · have := geI hge
    rw [he]
    simp only [List.drop_of_length_le this]
    exact Wk.refl _

/-! the law -/
theorem apart_symm {x y : Rg} (h : apart x y) : apart y x := fun k ⟨a, b⟩ => h k ⟨b, a⟩
theorem apart_of_le {x y : Rg} (h : x.frm + x.cnt ≤ y.frm) : apart x y := fun k ⟨a, b⟩ => by unfold hit at a b; omega
theorem le_of_apart {x y : Rg} (h : apart x y) (hxy : x.frm ≤ y.frm) (hy : 1 ≤ y.cnt) : x.frm + x.cnt ≤ y.frm := by
  have := h y.frm
  unfold hit at this
  omega
theorem goOk_iff {n : Int} (hn : n ≤ 1024) : ∀ (s : List Rg) (at_ : Int), 0 ≤ at_ → (s.Pairwise fun x y => x.frm ≤ y.frm) → (goOk n at_ s = true ↔ (∀ x ∈ s, at_ ≤ x.frm ∧ fitN n x) ∧ s.Pairwise apart)
  | [], _, _, _ => by simp [goOk]
  | x :: r, at_, h0, hs => by
    rw [List.pairwise_cons] at hs
    rw [goOk]
    cases hc : (bif bif bif decide (x.frm < at_) then true else decide (x.cnt < 1) then true else decide (x.frm > n) then true else decide (x.cnt > subI .i64 n x.frm)) with
    | true =>
      simp only [cond_true]
      refine ⟨fun h => (by cases h), fun ⟨h1, _⟩ => ?_⟩
      obtain ⟨a, b, c, d, e⟩ := h1 x (by simp)
      rw [sub64 (by omega) (by omega)] at hc
      simp at hc; omega
    | false =>
      simp only [cond_false]
      simp at hc
      obtain ⟨⟨⟨a, b⟩, c⟩, d⟩ := hc
      rw [sub64 (by omega) (by omega)] at d
      rw [add64 (by omega) (by omega), goOk_iff hn r (x.frm + x.cnt) (by omega) hs.2, List.pairwise_cons]
      constructor
      · rintro ⟨h1, h2⟩
        refine ⟨fun y hy => ?_, fun y hy => apart_of_le (h1 y hy).1, h2⟩
        rcases List.mem_cons.1 hy with rfl | hy
        · exact ⟨a, by omega, by omega, b, d⟩
        · exact ⟨by have := (h1 y hy).1; omega, (h1 y hy).2⟩
      · rintro ⟨h1, h2, h3⟩
        refine ⟨fun y hy => ⟨?_, (h1 y (List.mem_cons_of_mem _ hy)).2⟩, h3⟩
        exact le_of_apart (h2 y hy) (hs.1 y hy) (h1 y (List.mem_cons_of_mem _ hy)).2.2.2.1
theorem spV_iff (n : Int) (l : List Rg) : spV n l = true ↔ allocOk n l := by
  unfold spV allocOk
  cases hc : (bif decide (n < 0) then true else decide (n > 1024)) with
  | true =>
    simp only [cond_true]
    simp at hc
    exact ⟨fun h => (by cases h), fun ⟨a, b, _⟩ => by omega⟩
  | false =>
    simp only [cond_false]
    simp at hc
    obtain ⟨h1, h2⟩ := srt_spec l
    rw [goOk_iff (by omega) _ 0 (Int.le_refl _) h2, h1.pairwise_iff apart_symm]
    constructor
    · rintro ⟨a, b⟩; exact ⟨hc.1, hc.2, fun x hx => (a x (h1.mem_iff.2 hx)).2, b⟩
    · rintro ⟨_, _, a, b⟩
      exact ⟨fun x hx => ⟨(a x (h1.mem_iff.1 hx)).1, a x (h1.mem_iff.1 hx)⟩, b⟩
theorem marks_iff (n : Int) (l : List Rg) : (marks n l).2 = true ↔ allocOk n l := by
  unfold marks
  split
  · rename_i h; simp [h]
  · rename_i h; simp [h]
end Go.Proofs.Ytmlhaikblfjghaa.S1
