/- Seat 1: sorted regions. -/
import Derived.Test.YtmlhaikblfjghaaS5
import Derived.Shelf.SlSortCmp.WholeK
import Derived.Shelf.SlicesG.Cmp
namespace Go.Proofs
open Go.Shelf
def Try.sortRg_ren : Go.Shelf.Ren := ⟨fun | 6 => 63 | 15 => 68 | 14 => 67 | 28 => 78 | 29 => 79 | 20 => 70 | 21 => 71 | 22 => 72 | 23 => 73 | 24 => 74 | 25 => 75 | 26 => 76 | 27 => 77 | 46 => 80 | 47 => 81 | 48 => 82 | 49 => 83 | 50 => 84 | 57 => 85 | n => n, fun | 22 => 58 | 24 => 62 | 25 => 108 | 3 => 3 | 39 => 111 | 0 => 0 | 53 => 122 | 55 => 124 | 4 => 4 | 46 => 115 | 45 => 114 | 50 => 119 | 5 => 5 | 9 => 9 | 66 => 125 | 70 => 129 | 76 => 131 | 77 => 32 | n => n, fun | n => n⟩
theorem Try.sortRg : Go.Proofs.SlLaysF0.n6 Try.prog Try.sortRg_ren := {
  mixed := by kernel_rfl
  f6 := ⟨Try.f63.name, by decide, Try.func63.trans (congrArg some (by kernel_rfl))⟩
  f14 := ⟨Try.f67.name, by decide, Try.func67.trans (congrArg some (by kernel_rfl))⟩
  f15 := Try.func68.trans (congrArg some (by kernel_rfl))
  f20 := ⟨Try.f70.name, by decide, Try.func70.trans (congrArg some (by kernel_rfl))⟩
  f21 := ⟨Try.f71.name, by decide, Try.func71.trans (congrArg some (by kernel_rfl))⟩
  f22 := ⟨Try.f72.name, by decide, Try.func72.trans (congrArg some (by kernel_rfl))⟩
  f23 := ⟨Try.f73.name, by decide, Try.func73.trans (congrArg some (by kernel_rfl))⟩
  f24 := ⟨Try.f74.name, by decide, Try.func74.trans (congrArg some (by kernel_rfl))⟩
  f25 := ⟨Try.f75.name, by decide, Try.func75.trans (congrArg some (by kernel_rfl))⟩
  f26 := ⟨Try.f76.name, by decide, Try.func76.trans (congrArg some (by kernel_rfl))⟩
  f27 := ⟨Try.f77.name, by decide, Try.func77.trans (congrArg some (by kernel_rfl))⟩
  f28 := Try.func78.trans (congrArg some (by kernel_rfl))
  f29 := Try.func79.trans (congrArg some (by kernel_rfl))
  f46 := ⟨Try.f80.name, by decide, Try.func80.trans (congrArg some (by kernel_rfl))⟩
  f47 := Try.func81.trans (congrArg some (by kernel_rfl))
  f48 := Try.func82.trans (congrArg some (by kernel_rfl))
  f49 := ⟨Try.f83.name, by decide, Try.func83.trans (congrArg some (by kernel_rfl))⟩
  f50 := ⟨Try.f84.name, by decide, Try.func84.trans (congrArg some (by kernel_rfl))⟩
  f57 := ⟨Try.f85.name, by decide, Try.func85.trans (congrArg some (by kernel_rfl))⟩
  t0 := Try.underlying0
  a0 := Try.isAgg0
  z0 := Try.sizeOf0
  v0 := Try.zeroValue0
  t3 := Try.underlying3
  a3 := Try.isAgg3
  z3 := Try.sizeOf3
  v3 := Try.zeroValue3
  t4 := Try.underlying4
  a4 := Try.isAgg4
  z4 := Try.sizeOf4
  v4 := Try.zeroValue4
  t5 := Try.underlying5
  a5 := Try.isAgg5
  z5 := Try.sizeOf5
  v5 := Try.zeroValue5
  t9 := Try.underlying9
  a9 := Try.isAgg9
  z9 := Try.sizeOf9
  v9 := Try.zeroValue9
  t22 := Try.underlying58
  a22 := Try.isAgg58
  z22 := Try.sizeOf58
  v22 := Try.zeroValue58
  t25 := Try.underlying108
  a25 := Try.isAgg108
  z25 := Try.sizeOf108
  v25 := Try.zeroValue108
  t39 := Try.underlying111
  a39 := Try.isAgg111
  z39 := Try.sizeOf111
  v39 := Try.zeroValue111
  t45 := Try.underlying114
  a45 := Try.isAgg114
  z45 := Try.sizeOf114
  v45 := Try.zeroValue114
  t46 := Try.underlying115
  a46 := Try.isAgg115
  z46 := Try.sizeOf115
  v46 := Try.zeroValue115
  t50 := Try.underlying119
  a50 := Try.isAgg119
  z50 := Try.sizeOf119
  v50 := Try.zeroValue119
  t53 := Try.underlying122
  a53 := Try.isAgg122
  z53 := Try.sizeOf122
  v53 := Try.zeroValue122
  t55 := Try.underlying124
  a55 := Try.isAgg124
  z55 := Try.sizeOf124
  v55 := Try.zeroValue124
  t66 := Try.underlying125
  a66 := Try.isAgg125
  z66 := Try.sizeOf125
  v66 := Try.zeroValue125
  t70 := Try.underlying129
  a70 := Try.isAgg129
  z70 := Try.sizeOf129
  v70 := Try.zeroValue129
  t76 := Try.underlying131
  a76 := Try.isAgg131
  z76 := Try.sizeOf131
  v76 := Try.zeroValue131
  t77 := Try.underlying32
  a77 := Try.isAgg32
  z77 := Try.sizeOf32
  v77 := Try.zeroValue32 }
def Try.cmpInt_ren : Go.Shelf.Ren := ⟨fun | 5 => 65 | 7 => 69 | n => n, fun | 22 => 3 | 3 => 3 | 4 => 4 | n => n, fun | n => n⟩
theorem Try.cmpInt : Go.Proofs.SlLaysC2.n5 Try.prog Try.cmpInt_ren := {
  mixed := by kernel_rfl
  f5 := ⟨Try.f65.name, by decide, Try.func65.trans (congrArg some (by kernel_rfl))⟩
  f7 := ⟨Try.f69.name, by decide, Try.func69.trans (congrArg some (by kernel_rfl))⟩
  t3 := Try.underlying3
  a3 := Try.isAgg3
  z3 := Try.sizeOf3
  v3 := Try.zeroValue3
  t4 := Try.underlying4
  a4 := Try.isAgg4
  z4 := Try.sizeOf4
  v4 := Try.zeroValue4
  t22 := Try.underlying3
  a22 := Try.isAgg3
  z22 := Try.sizeOf3
  v22 := Try.zeroValue3 }
end Go.Proofs
namespace Go.Proofs.Ytmlhaikblfjghaa.S1
open Go Go.Ab Go.Proofs

theorem catG_zero (f g : Nat → D) : catG 0 f g = g := by
  funext i
  have : Nat.blt i 0 = false := by rw [← Bool.not_eq_true, Nat.blt_eq]; omega
  simp [catG, this]
def bxR (h : Heap) (es : List Rg) : Heap := ⟨upd h.box h.nl (some (.arr (es.length * 2) (cellsG 2 fun i => Rg.d (es.getD i default)))), h.nl + 1, h.hw, h.nt⟩
theorem F62 : OkF 62 Try.f62 := ⟨by kernel_rfl, by kernel_rfl, by kernel_rfl⟩
def lv62 : List (List Nat × List Nat) := []
noncomputable def n62s  : List Nat → Nat → Option Ans := scrAt []
theorem n62 (es : List Rg) (h : Heap) (K : D → Heap → Prop) : runS (EnX [7] Try.f62) (fh Try.f62 K) (n62s ) lv62 200 [.code []] ⟨argSlots 0 [L es 2 Rg.d], h⟩ =
  (0 < es.length ∧ (0 < es.length ∧ (0 + es.length) * 16 ≤ roomM) ∧ K (D.sl h.nl 0 (0 + es.length)) { box := upd h.box h.nl (some (Row.arr ((0 + es.length) * 2) (cellsG 2 (catG 0 (litG []) fun i => (es.getD i default).d)))), nl := h.nl + 1, hw := h.hw, nt := h.nt }) := by kernel_rfl
theorem e62 (es : List Rg) (h : Heap) (hne : es ≠ []) (hl : es.length ≤ 1000000) : Does PP 62 [L es 2 Rg.d] h (.sl h.nl 0 es.length) ⟨upd h.box h.nl (some (.arr (es.length * 2) (cellsG 2 fun i => Rg.d (es.getD i default)))), h.nl + 1, h.hw, h.nt⟩ := by
  have h0 : 0 < es.length := List.length_pos_iff.2 hne
  refine du F62 (by kernel_rfl) (of_eq (n62 es h _) ?_)
  rw [Nat.zero_add, catG_zero]
  exact ⟨h0, ⟨h0, by unfold roomM; omega⟩, RetLe.refl _ _⟩

open Go.Shelf Go.RowKit Go.Lib Go.Sort in
theorem cmpR (x y : Rg) (W : World) : Calls Try.prog 64 #[.agg #[.int .i64 x.frm, .int .i64 x.cnt], .agg #[.int .i64 y.frm, .int .i64 y.cnt]] W fun e w' => e = .returned (.int .i64 (Lib.compareInt x.frm y.frm)) ∧ ∃ q os', w' = grow (W.drewN q) os' := by
  have hcon := fun W' => AnyG.cmp_Compare_int Try.cmpInt x.frm y.frm W'
  change ∀ W', Calls Try.prog 65 _ _ _ at hcon
  generalize Lib.compareInt x.frm y.frm = r at hcon ⊢
  go_enter Try.func64, Try.ntmps64
  go_wp2_with (go_at_call 65; refine (hcon _).mono ?_; rintro e w' ⟨rfl, rfl⟩)
  go_ret
  exact ⟨rfl, 0, _, by rw [alloc_eq_grow, alloc_eq_grow, grow_grow]; rfl⟩

def encR (x : Rg) : List Value := [.int .i64 x.frm, .int .i64 x.cnt]
def ltR : Rg → Rg → Bool := Go.Proofs.ltOf fun x y => Go.Lib.compareInt x.frm y.frm
theorem ltR_eq (x y : Rg) : ltR x y = decide (x.frm < y.frm) := by
  unfold ltR Go.Proofs.ltOf Go.Lib.compareInt
  by_cases h1 : x.frm < y.frm
  · simp [h1]
  · by_cases h2 : y.frm < x.frm <;> simp [h1, h2]
theorem swoR : Go.Sort.SWO ltR where
  irrefl x := by rw [ltR_eq]; simp
  trans x y z h1 h2 := by rw [ltR_eq] at *; simp at *; omega
  ntrans x y z h1 h2 := by rw [ltR_eq] at *; simp at *; omega
def srt (es : List Rg) : List Rg := (Go.Sort.pdq ltR es.toArray 0 es.length (Go.Lib.bitLen es.length) true true).toList
theorem srt_spec (es : List Rg) : (srt es).Perm es ∧ (srt es).Pairwise fun x y => x.frm ≤ y.frm := by
  have h := Go.Sort.pdq_sorts ltR swoR es.toArray 0 es.length (Go.Lib.bitLen es.length) true true (Nat.zero_le _) (by simp) (Or.inl rfl)
  obtain ⟨⟨h1, _, h2⟩, h3⟩ := h
  have hsz : (Go.Sort.pdq ltR es.toArray 0 es.length (Go.Lib.bitLen es.length) true true).size = es.length := by rw [h1]; simp
  unfold srt
  generalize Go.Sort.pdq ltR es.toArray 0 es.length (Go.Lib.bitLen es.length) true true = A at *
  refine ⟨?_, ?_⟩
  · have e1 : A.extract 0 es.length = A := by rw [← hsz]; simp
    have e2 : es.toArray.extract 0 es.length = es.toArray := by simp
    rw [e1, e2] at h2
    exact h2
  · rw [List.pairwise_iff_getElem]
    intro i j hi hj hij
    have hi' : i < A.size := by simpa using hi
    have hj' : j < A.size := by simpa using hj
    have := h3 i j (Nat.zero_le _) hij (by omega)
    rw [ltR_eq, getElem!_pos _ i hi', getElem!_pos _ j hj'] at this
    simp at this ⊢
    omega
theorem srt_len (es : List Rg) : (srt es).length = es.length := (srt_spec es).1.length_eq

open Go.Shelf Go.RowKit Go.Lib Go.Sort in
theorem sortW {w : World} {b n : Nat} {d : Array Rg} {os : Array Obj} {vals : Array Value} {T : Nat} (hb : w.heap[b]? = some (.cells vals T (0, 0))) :
    (sortWorldK encR 2 w b 0 n d os).heap[b]? = some (.cells (putCells id 0 (flatK encR 2 d) vals) T (0, 0)) ∧ (∀ k, k ≠ b → k < w.heap.size → (sortWorldK encR 2 w b 0 n d os).heap[k]? = w.heap[k]?) ∧ w.heap.size ≤ (sortWorldK encR 2 w b 0 n d os).heap.size ∧
      (sortWorldK encR 2 w b 0 n d os).os = w.os ∧ (sortWorldK encR 2 w b 0 n d os).tape = w.tape ∧ (sortWorldK encR 2 w b 0 n d os).output = w.output := by
  have hlt : b < w.heap.size := by
    rcases Nat.lt_or_ge b w.heap.size with h | h
    · exact h
    · rw [Array.getElem?_eq_none h] at hb; cases hb
  refine ⟨?_, fun k hk hkl => ?_, ?_, rfl, rfl, rfl⟩
  · simp only [sortWorldK, grow, putRowK, putRow, mapBlock, Sort.ahead]
    rw [Array.getElem?_append_left (by simpa using hlt), Array.getElem?_modify, if_pos rfl, hb]
    rfl
  · simp only [sortWorldK, grow, putRowK, putRow, mapBlock, Sort.ahead]
    rw [Array.getElem?_append_left (by simpa using hkl), Array.getElem?_modify, if_neg (fun h => hk h.symm)]
  · simp [sortWorldK, grow, putRowK, putRow, mapBlock, Sort.ahead]

def cellR (es : List Rg) (j : Nat) : Int := if j % 2 = 0 then (es.getD (j / 2) default).frm else (es.getD (j / 2) default).cnt
theorem cellR_d (es : List Rg) (j : Nat) : cellsG 2 (fun i => Rg.d (es.getD i default)) j = I (cellR es j) := by
  rw [cellsG_get _ (by rfl)]
  unfold cellR
  rcases (by omega : j % 2 = 0 ∨ j % 2 = 1) with h | h <;> rw [h] <;> rfl
theorem cellR_v (es : List Rg) (j : Nat) (h : j < es.length * 2) : (Go.Sort.flatK encR 2 es.toArray)[j]! = .int .i64 (cellR es j) := by
  rw [Go.Sort.get_flatK _ _ _ _ (by simpa using h)]
  have hj : j / 2 < es.length := by omega
  have e : es.toArray[j / 2]! = es.getD (j / 2) default := by
    rw [getElem!_pos _ _ (by simpa using hj), getD_list hj]; simp
  rw [e]
  unfold cellR
  rcases (by omega : j % 2 = 0 ∨ j % 2 = 1) with h | h <;> rw [h] <;> rfl

open Go.Shelf Go.RowKit Go.Lib Go.Sort in
theorem e63 (es : List Rg) (hne : es ≠ []) (hl : es.length ≤ 1000000) (f : Nat → Option Row) (l nl nt : Nat) (hw : Nat → Option Nat) :
    Does PP 63 [.sl l 0 es.length, .clo 64 []] ⟨upd f l (some (.arr (es.length * 2) (cellsG 2 fun i => Rg.d (es.getD i default)))), nl, hw, nt⟩ (.tup [])
      ⟨upd f l (some (.arr ((srt es).length * 2) (cellsG 2 fun i => Rg.d ((srt es).getD i default)))), nl, hw, nt⟩ := by
  have h0 : 0 < es.length := List.length_pos_iff.2 hne
  refine Does.of_calls ⟨Try.f63, by kernel_rfl, by kernel_rfl, by kernel_rfl⟩ fun g U w vs i hs => ?_
  obtain ⟨b, e1, ⟨T, vals, e2, e3, e4⟩, e5, e6⟩ := i.box l _ (upd_same _ _ _)
  simp only [Rs, R] at hs
  obtain ⟨_, _, rfl, ⟨b', hb', a, cap, rfl, hcap, hlen, ha⟩, _, _, rfl, ⟨_, rfl, rfl⟩, rfl⟩ := hs
  rw [e1] at hb'; cases hb'
  have ha' := ha (by omega)
  subst ha'
  have hlt : b < w.heap.size := i.muLt l b e1
  have hH : HoldsK encR 2 w b 0 es.toArray := by
    intro j hj
    have hj' : j < es.length * 2 := by simpa using hj
    obtain ⟨v, h1, h2⟩ := e4 j hj'
    rw [cellR_d] at h2
    have h2' : v = .int .i64 (cellR es j) := by simpa only [R] using h2
    rw [cellR_v es j hj', ← h2']
    simp only [World.cell?, World.frozen?, e2, Nat.zero_add]
    exact ⟨h1, by simp⟩
  have hcon := AnyQ.slices_SortFunc_eq Try.sortRg 2 Try.isAgg62 Try.sizeOf62 encR (fun _ => rfl) (fun x v hv => by simp [encR] at hv; rcases hv with rfl | rfl <;> rfl) (fun x y => Lib.compareInt x.frm y.frm) swoR 64 #[] b 0 cap es.toArray w (enters_of Try.func64 (by kernel_rfl) rfl) (fun _ _ _ _ x y => cmpR x y _) hH hlt (by simp; omega)
  change Calls Try.prog 63 _ _ _ at hcon
  have hsz : es.toArray.size = es.length := by simp
  rw [hsz] at hcon
  refine hcon.mono fun e w' ⟨he, n, os, hw'⟩ => ?_
  subst hw'
  obtain ⟨h1, h2, h3, h4, h5, h6⟩ := sortW (n := n) (d := Go.Sort.pdq ltR es.toArray 0 es.length (Go.Lib.bitLen es.length) true true) (os := os) e2
  refine ⟨.tuple #[], g, he, by simp [R, Rs], i.row e1 h1 ?_ h3 h2, Grow.refl U g, ⟨h4, h5, h6, h3, fun k hk => h2 k (fun h => e5 (h ▸ hk)) (i.ub k hk)⟩⟩
  have hd : Go.Sort.pdq ltR es.toArray 0 es.length (Go.Lib.bitLen es.length) true true = (srt es).toArray := by simp [srt]
  rw [hd]
  refine ⟨by simp [putCells, srt_len]; omega, fun j hj => ?_⟩
  rw [cellR_d]
  refine ⟨.int .i64 (cellR (srt es) j), ?_, by simp only [R]⟩
  have hj' : j < es.length * 2 := by rw [← srt_len]; exact hj
  rw [← cellR_v _ j hj]
  simp [putCells, Array.getElem?_eq_getElem (show j < vals.size by omega), hj]
end Go.Proofs.Ytmlhaikblfjghaa.S1
