/- Seat 1: sorted regions. -/
import Derived.Test.YtmlhaikblfjghaaGreatDoorCCI1
import Derived.Shelf.SlSortCmp.WholeK
import Derived.Shelf.SlicesG.Cmp
namespace Go.Proofs
open Go.Shelf
def Tryz.sortRg_ren : Go.Shelf.Ren := ⟨fun | 6 => 61 | 15 => 84 | 14 => 83 | 28 => 102 | 29 => 103 | 20 => 94 | 21 => 95 | 22 => 96 | 23 => 97 | 24 => 98 | 25 => 99 | 26 => 100 | 27 => 101 | 46 => 113 | 47 => 114 | 48 => 115 | 49 => 116 | 50 => 117 | 57 => 123 | n => n, fun | 22 => 45 | 24 => 51 | 25 => 124 | 3 => 3 | 39 => 96 | 0 => 0 | 53 => 115 | 55 => 118 | 4 => 4 | 46 => 144 | 45 => 143 | 50 => 148 | 5 => 5 | 9 => 9 | 66 => 157 | 70 => 161 | 76 => 165 | 77 => 166 | n => n, fun | n => n⟩
theorem Tryz.sortRg : Go.Proofs.SlLaysF0.n6 Tryz.prog Tryz.sortRg_ren := {
  mixed := by kernel_rfl
  f6 := ⟨Tryz.f61.name, by decide, Tryz.func61.trans (congrArg some (by kernel_rfl))⟩
  f14 := ⟨Tryz.f83.name, by decide, Tryz.func83.trans (congrArg some (by kernel_rfl))⟩
  f15 := Tryz.func84.trans (congrArg some (by kernel_rfl))
  f20 := ⟨Tryz.f94.name, by decide, Tryz.func94.trans (congrArg some (by kernel_rfl))⟩
  f21 := ⟨Tryz.f95.name, by decide, Tryz.func95.trans (congrArg some (by kernel_rfl))⟩
  f22 := ⟨Tryz.f96.name, by decide, Tryz.func96.trans (congrArg some (by kernel_rfl))⟩
  f23 := ⟨Tryz.f97.name, by decide, Tryz.func97.trans (congrArg some (by kernel_rfl))⟩
  f24 := ⟨Tryz.f98.name, by decide, Tryz.func98.trans (congrArg some (by kernel_rfl))⟩
  f25 := ⟨Tryz.f99.name, by decide, Tryz.func99.trans (congrArg some (by kernel_rfl))⟩
  f26 := ⟨Tryz.f100.name, by decide, Tryz.func100.trans (congrArg some (by kernel_rfl))⟩
  f27 := ⟨Tryz.f101.name, by decide, Tryz.func101.trans (congrArg some (by kernel_rfl))⟩
  f28 := Tryz.func102.trans (congrArg some (by kernel_rfl))
  f29 := Tryz.func103.trans (congrArg some (by kernel_rfl))
  f46 := ⟨Tryz.f113.name, by decide, Tryz.func113.trans (congrArg some (by kernel_rfl))⟩
  f47 := Tryz.func114.trans (congrArg some (by kernel_rfl))
  f48 := Tryz.func115.trans (congrArg some (by kernel_rfl))
  f49 := ⟨Tryz.f116.name, by decide, Tryz.func116.trans (congrArg some (by kernel_rfl))⟩
  f50 := ⟨Tryz.f117.name, by decide, Tryz.func117.trans (congrArg some (by kernel_rfl))⟩
  f57 := ⟨Tryz.f123.name, by decide, Tryz.func123.trans (congrArg some (by kernel_rfl))⟩
  t0 := Tryz.underlying0
  a0 := Tryz.isAgg0
  z0 := Tryz.sizeOf0
  v0 := Tryz.zeroValue0
  t3 := Tryz.underlying3
  a3 := Tryz.isAgg3
  z3 := Tryz.sizeOf3
  v3 := Tryz.zeroValue3
  t4 := Tryz.underlying4
  a4 := Tryz.isAgg4
  z4 := Tryz.sizeOf4
  v4 := Tryz.zeroValue4
  t5 := Tryz.underlying5
  a5 := Tryz.isAgg5
  z5 := Tryz.sizeOf5
  v5 := Tryz.zeroValue5
  t9 := Tryz.underlying9
  a9 := Tryz.isAgg9
  z9 := Tryz.sizeOf9
  v9 := Tryz.zeroValue9
  t22 := Tryz.underlying45
  a22 := Tryz.isAgg45
  z22 := Tryz.sizeOf45
  v22 := Tryz.zeroValue45
  t25 := Tryz.underlying124
  a25 := Tryz.isAgg124
  z25 := Tryz.sizeOf124
  v25 := Tryz.zeroValue124
  t39 := Tryz.underlying96
  a39 := Tryz.isAgg96
  z39 := Tryz.sizeOf96
  v39 := Tryz.zeroValue96
  t45 := Tryz.underlying143
  a45 := Tryz.isAgg143
  z45 := Tryz.sizeOf143
  v45 := Tryz.zeroValue143
  t46 := Tryz.underlying144
  a46 := Tryz.isAgg144
  z46 := Tryz.sizeOf144
  v46 := Tryz.zeroValue144
  t50 := Tryz.underlying148
  a50 := Tryz.isAgg148
  z50 := Tryz.sizeOf148
  v50 := Tryz.zeroValue148
  t53 := Tryz.underlying115
  a53 := Tryz.isAgg115
  z53 := Tryz.sizeOf115
  v53 := Tryz.zeroValue115
  t55 := Tryz.underlying118
  a55 := Tryz.isAgg118
  z55 := Tryz.sizeOf118
  v55 := Tryz.zeroValue118
  t66 := Tryz.underlying157
  a66 := Tryz.isAgg157
  z66 := Tryz.sizeOf157
  v66 := Tryz.zeroValue157
  t70 := Tryz.underlying161
  a70 := Tryz.isAgg161
  z70 := Tryz.sizeOf161
  v70 := Tryz.zeroValue161
  t76 := Tryz.underlying165
  a76 := Tryz.isAgg165
  z76 := Tryz.sizeOf165
  v76 := Tryz.zeroValue165
  t77 := Tryz.underlying166
  a77 := Tryz.isAgg166
  z77 := Tryz.sizeOf166
  v77 := Tryz.zeroValue166 }
def Tryz.cmpInt_ren : Go.Shelf.Ren := ⟨fun | 5 => 63 | 7 => 85 | n => n, fun | 22 => 3 | 3 => 3 | 4 => 4 | n => n, fun | n => n⟩
theorem Tryz.cmpInt : Go.Proofs.SlLaysC2.n5 Tryz.prog Tryz.cmpInt_ren := {
  mixed := by kernel_rfl
  f5 := ⟨Tryz.f63.name, by decide, Tryz.func63.trans (congrArg some (by kernel_rfl))⟩
  f7 := ⟨Tryz.f85.name, by decide, Tryz.func85.trans (congrArg some (by kernel_rfl))⟩
  t3 := Tryz.underlying3
  a3 := Tryz.isAgg3
  z3 := Tryz.sizeOf3
  v3 := Tryz.zeroValue3
  t4 := Tryz.underlying4
  a4 := Tryz.isAgg4
  z4 := Tryz.sizeOf4
  v4 := Tryz.zeroValue4
  t22 := Tryz.underlying3
  a22 := Tryz.isAgg3
  z22 := Tryz.sizeOf3
  v22 := Tryz.zeroValue3 }
end Go.Proofs
namespace Go.Proofs.YtmlhaikblfjghaaGreatDoor.S1
open Go Go.Ab Go.Proofs

theorem catG_zero (f g : Nat → D) : catG 0 f g = g := by
  funext i
  have : Nat.blt i 0 = false := by rw [← Bool.not_eq_true, Nat.blt_eq]; omega
  simp [catG, this]
theorem F60 : OkF 60 Tryz.f60 := ⟨by kernel_rfl, by kernel_rfl, by kernel_rfl⟩
def lv60 : List (List Nat × List Nat) := []
noncomputable def n62s  : List Nat → Nat → Option Ans := scrAt []
theorem n62 [Lay] (es : List Rg) (h : Heap) (K : D → Heap → Prop) : runS (EnX [7] Tryz.f60) (fh Tryz.f60 K) (n62s ) lv60 200 [.code []] ⟨argSlots 0 [L es 2 Rg.d], h⟩ =
  (0 < es.length ∧ (0 < es.length ∧ (0 + es.length) * 16 ≤ roomM) ∧ K (D.sl h.nl 0 (0 + es.length)) { box := upd h.box h.nl (some (Row.arr ((0 + es.length) * 2) (cellsG 2 (catG 0 (litG []) fun i => (es.getD i default).d)))), nl := h.nl + 1, hw := h.hw, nt := h.nt, vw := h.vw : Heap }) := by kernel_rfl
theorem e60 [Lay] (es : List Rg) (h : Heap) (hne : es ≠ []) (hl : es.length ≤ 1000000) : Does PP 60 [L es 2 Rg.d] h (.sl h.nl 0 es.length) ⟨upd h.box h.nl (some (.arr (es.length * 2) (cellsG 2 fun i => Rg.d (es.getD i default)))), h.nl + 1, h.hw, h.nt, h.vw⟩ := by
  have h0 : 0 < es.length := List.length_pos_iff.2 hne
  refine du F60 (by kernel_rfl) (of_eq (n62 es h _) ?_)
  rw [Nat.zero_add, catG_zero]
  exact ⟨h0, ⟨h0, by unfold roomM; omega⟩, RetLe.refl _ _⟩

open Go.Shelf Go.RowKit Go.Lib Go.Sort in
theorem cmpR (x y : Rg) (W : World) : Calls Tryz.prog 62 #[.agg #[.int .i64 x.frm, .int .i64 x.cnt], .agg #[.int .i64 y.frm, .int .i64 y.cnt]] W fun e w' => e = .returned (.int .i64 (Lib.compareInt x.frm y.frm)) ∧ ∃ q os', w' = grow (W.drewN q) os' := by
  have hcon := fun W' => AnyG.cmp_Compare_int Tryz.cmpInt x.frm y.frm W'
  change ∀ W', Calls Tryz.prog 63 _ _ _ at hcon
  generalize Lib.compareInt x.frm y.frm = r at hcon ⊢
  go_enter Tryz.func62, Tryz.ntmps62
  go_wp2_with (go_at_call 63; refine (hcon _).mono ?_; rintro e w' ⟨rfl, rfl⟩)
  go_ret
  exact ⟨rfl, 0, _, by rw [alloc_eq_grow, alloc_eq_grow, grow_grow]; rfl⟩

def encR (x : Rg) : List Value := [.int .i64 x.frm, .int .i64 x.cnt]
def ltR : Rg → Rg → Bool := Go.Proofs.ltOf fun x y => Go.Lib.compareInt x.frm y.frm
theorem ltR_eq (x y : Rg) : ltR x y = decide (x.frm < y.frm) := by
  unfold ltR Go.Proofs.ltOf Go.Lib.compareInt
  by_cases h1 : x.frm < y.frm
  · simp [h1]
  · by_cases h2 : y.frm < x.frm <;> simp [h1, h2]
theorem swoR : Go.Sort.SWO ltR where
  irrefl x := by rw [ltR_eq]; simp
  trans x y z h1 h2 := by rw [ltR_eq] at *; simp at *; omega
  ntrans x y z h1 h2 := by rw [ltR_eq] at *; simp at *; omega
def srt (es : List Rg) : List Rg := (Go.Sort.pdq ltR es.toArray 0 es.length (Go.Lib.bitLen es.length) true true).toList
theorem srt_spec (es : List Rg) : (srt es).Perm es ∧ (srt es).Pairwise fun x y => x.frm ≤ y.frm := by
  have h := Go.Sort.pdq_sorts ltR swoR es.toArray 0 es.length (Go.Lib.bitLen es.length) true true (Nat.zero_le _) (by simp) (Or.inl rfl)
  obtain ⟨⟨h1, _, h2⟩, h3⟩ := h
  have hsz : (Go.Sort.pdq ltR es.toArray 0 es.length (Go.Lib.bitLen es.length) true true).size = es.length := by rw [h1]; simp
  unfold srt
  generalize Go.Sort.pdq ltR es.toArray 0 es.length (Go.Lib.bitLen es.length) true true = A at *
  refine ⟨?_, ?_⟩
  · have e1 : A.extract 0 es.length = A := by rw [← hsz]; simp
    have e2 : es.toArray.extract 0 es.length = es.toArray := by simp
    rw [e1, e2] at h2
    exact h2
  · rw [List.pairwise_iff_getElem]
    intro i j hi hj hij
    have hi' : i < A.size := by simpa using hi
    have hj' : j < A.size := by simpa using hj
    have := h3 i j (Nat.zero_le _) hij (by omega)
    rw [ltR_eq, getElem!_pos _ i hi', getElem!_pos _ j hj'] at this
    simp at this ⊢
    omega
theorem srt_len (es : List Rg) : (srt es).length = es.length := (srt_spec es).1.length_eq

open Go.Shelf Go.RowKit Go.Lib Go.Sort in
theorem sortW {w : World} {b n : Nat} {d : Array Rg} {os : Array Obj} {vals : Array Value} {T : Nat} (hb : w.heap[b]? = some (.cells vals T (0, 0))) :
    (sortWorldK encR 2 w b 0 n d os).heap[b]? = some (.cells (putCells id 0 (flatK encR 2 d) vals) T (0, 0)) ∧ (∀ k, k ≠ b → k < w.heap.size → (sortWorldK encR 2 w b 0 n d os).heap[k]? = w.heap[k]?) ∧ w.heap.size ≤ (sortWorldK encR 2 w b 0 n d os).heap.size ∧
      (sortWorldK encR 2 w b 0 n d os).os = w.os ∧ (sortWorldK encR 2 w b 0 n d os).tape = w.tape ∧ (sortWorldK encR 2 w b 0 n d os).output = w.output := by
  have hlt : b < w.heap.size := by
    rcases Nat.lt_or_ge b w.heap.size with h | h
    · exact h
    · rw [Array.getElem?_eq_none h] at hb; cases hb
  refine ⟨?_, fun k hk hkl => ?_, ?_, rfl, rfl, rfl⟩
  · simp only [sortWorldK, grow, putRowK, putRow, mapBlock, Sort.ahead]
    rw [Array.getElem?_append_left (by simpa using hlt), Array.getElem?_modify, if_pos rfl, hb]
    rfl
  · simp only [sortWorldK, grow, putRowK, putRow, mapBlock, Sort.ahead]
    rw [Array.getElem?_append_left (by simpa using hkl), Array.getElem?_modify, if_neg (fun h => hk h.symm)]
  · simp [sortWorldK, grow, putRowK, putRow, mapBlock, Sort.ahead]

def cellR (es : List Rg) (j : Nat) : Int := if j % 2 = 0 then (es.getD (j / 2) default).frm else (es.getD (j / 2) default).cnt
theorem cellR_d (es : List Rg) (j : Nat) : cellsG 2 (fun i => Rg.d (es.getD i default)) j = I (cellR es j) := by
  rw [cellsG_get _ (by rfl)]
  unfold cellR
  rcases (by omega : j % 2 = 0 ∨ j % 2 = 1) with h | h <;> rw [h] <;> rfl
theorem cellR_v (es : List Rg) (j : Nat) (h : j < es.length * 2) : (Go.Sort.flatK encR 2 es.toArray)[j]! = .int .i64 (cellR es j) := by
  rw [Go.Sort.get_flatK _ _ _ _ (by simpa using h)]
  have hj : j / 2 < es.length := by omega
  have e : es.toArray[j / 2]! = es.getD (j / 2) default := by
    rw [getElem!_pos _ _ (by simpa using hj), getD_list hj]; simp
  rw [e]
  unfold cellR
  rcases (by omega : j % 2 = 0 ∨ j % 2 = 1) with h | h <;> rw [h] <;> rfl

open Go.Shelf Go.RowKit Go.Lib Go.Sort in
theorem e61 [Lay] (es : List Rg) (hne : es ≠ []) (hl : es.length ≤ 1000000) (f : Nat → Option Row) (l nl nt : Nat) (hw : Nat → Option Nat) (vw : Nat → Option (Nat → D)) :
    Does PP 61 [.sl l 0 es.length, .clo 62 []] ⟨upd f l (some (.arr (es.length * 2) (cellsG 2 fun i => Rg.d (es.getD i default)))), nl, hw, nt, vw⟩ (.tup [])
      ⟨upd f l (some (.arr ((srt es).length * 2) (cellsG 2 fun i => Rg.d ((srt es).getD i default)))), nl, hw, nt, vw⟩ := by
  have h0 : 0 < es.length := List.length_pos_iff.2 hne
  refine Does.of_calls ⟨Tryz.f61, by kernel_rfl, by kernel_rfl, by kernel_rfl⟩ fun g U w vs i hs => ?_
  obtain ⟨b, e1, ⟨T, vals, e2, e3, e4⟩, e5, e6⟩ := i.box l _ (upd_same _ _ _)
  simp only [Rs, R] at hs
  obtain ⟨_, _, rfl, ⟨b', hb', a, cap, rfl, hcap, hlen, ha⟩, _, _, rfl, ⟨_, rfl, rfl⟩, rfl⟩ := hs
  rw [e1] at hb'; cases hb'
  have ha' := ha (by omega)
  subst ha'
  have hlt : b < w.heap.size := i.muLt l b e1
  have hH : HoldsK encR 2 w b 0 es.toArray := by
    intro j hj
    have hj' : j < es.length * 2 := by simpa using hj
    obtain ⟨v, h1, h2⟩ := e4 j hj'
    rw [cellR_d] at h2
    have h2' : v = .int .i64 (cellR es j) := by simpa only [R] using h2
    rw [cellR_v es j hj', ← h2']
    simp only [World.cell?, World.frozen?, e2, Nat.zero_add]
    exact ⟨h1, by simp⟩
  have hcon := AnyQ.slices_SortFunc_eq Tryz.sortRg 2 Tryz.isAgg51 Tryz.sizeOf51 encR (fun _ => rfl) (fun x v hv => by simp [encR] at hv; rcases hv with rfl | rfl <;> rfl) (fun x y => Lib.compareInt x.frm y.frm) swoR 62 #[] b 0 cap es.toArray w (enters_of Tryz.func62 (by kernel_rfl) rfl) (fun _ _ _ _ x y => cmpR x y _) hH hlt (by simp; omega)
  change Calls Tryz.prog 61 _ _ _ at hcon
  have hsz : es.toArray.size = es.length := by simp
  rw [hsz] at hcon
  refine hcon.mono fun e w' ⟨he, n, os, hw'⟩ => ?_
  subst hw'
  obtain ⟨h1, h2, h3, h4, h5, h6⟩ := sortW (n := n) (d := Go.Sort.pdq ltR es.toArray 0 es.length (Go.Lib.bitLen es.length) true true) (os := os) e2
  refine ⟨.tuple #[], g, he, by simp [R, Rs], i.row e1 h1 ?_ h3 h2, Grow.refl U g, ⟨h4, h5, h6, h3, fun k hk => h2 k (fun h => e5 (h ▸ hk)) (i.ub k hk), fun k hk => by
    have hkl : k < w.heap.size := by
      rcases Nat.lt_or_ge k w.heap.size with h | h
      · exact h
      · rw [Array.getElem?_eq_none h] at hk; cases hk
    have hkb : k ≠ b := fun e => by rw [e, e2] at hk; cases hk
    exact (h2 k hkb hkl).trans hk⟩⟩
  have hd : Go.Sort.pdq ltR es.toArray 0 es.length (Go.Lib.bitLen es.length) true true = (srt es).toArray := by simp [srt]
  rw [hd]
  refine ⟨by simp [putCells, srt_len]; omega, fun j hj => ?_⟩
  rw [cellR_d]
  refine ⟨.int .i64 (cellR (srt es) j), ?_, by simp only [R]⟩
  have hj' : j < es.length * 2 := by rw [← srt_len]; exact hj
  rw [← cellR_v _ j hj]
  simp [putCells, Array.getElem?_eq_getElem (show j < vals.size by omega), hj]
end Go.Proofs.YtmlhaikblfjghaaGreatDoor.S1
/- Seat 1: valid allocations. -/
namespace Go.Proofs.YtmlhaikblfjghaaGreatDoor.S1
open Go Go.Ab Go.Proofs
/-- An array of regions alone in the heap. -/
def hAr (es : List Rg) : Heap := ⟨upd (fun _ => none) 0 (some (.arr (es.length * 2) (cellsG 2 fun i => Rg.d (es.getD i default)))), 1, fun _ => none, 0, fun _ => none⟩
theorem eClR [Lay] (es : List Rg) (hne : es ≠ []) (hl : es.length ≤ 1000000) : Does PP 60 [L es 2 Rg.d] .empty (.sl 0 0 es.length) (hAr es) := e60 es .empty hne hl
theorem eSoR [Lay] (es : List Rg) (hne : es ≠ []) (hl : es.length ≤ 1000000) : Does PP 61 [.sl 0 0 es.length, .clo 62 []] (hAr es) (.tup []) (hAr (srt es)) := e61 es hne hl (fun _ => none) 0 1 0 (fun _ => none) (fun _ => none)
theorem F52 : OkF 52 Tryz.f52 := ⟨by kernel_rfl, by kernel_rfl, by kernel_rfl⟩
def lv52 : List (List Nat × List Nat) := []
noncomputable def n58s (l : List Rg) : List Nat → Nat → Option Ans := scrAt [([1, 0], 1, Ans.eff (D.sl 0 0 l.length) (hAr l)), ([1, 1, 0], 1, Ans.eff (.tup []) (hAr (srt l)))]
theorem n58 [Lay] (l : List Rg) (K : D → Heap → Prop) : runS (En Tryz.f52) (fh Tryz.f52 K) (n58s l) lv52 200 [.code []] ⟨argSlots 0 [L l 2 Rg.d], .empty⟩ =
  (Does PP 60 [L l 2 Rg.d] Heap.empty (D.sl 0 0 l.length) (hAr l) ∧ Does PP 61 [D.sl 0 0 l.length, D.clo 62 []] { box := upd (fun _ => none) 0 (some (Row.arr (l.length * 2) (cellsG 2 fun i => (l.getD i default).d))), nl := 1, hw := fun _ => none, nt := 0, vw := fun _ => none : Heap } (.tup []) (hAr (srt l)) ∧ K (D.sl 0 0 l.length) { box := upd (fun _ => none) 0 (some (Row.arr ((srt l).length * 2) (cellsG 2 fun i => ((srt l).getD i default).d))), nl := 1, hw := fun _ => none, nt := 0, vw := fun _ => none : Heap }) := by kernel_rfl
theorem c52 [Lay] (l : List Rg) (hne : l ≠ []) (hl : l.length ≤ 1000000) : Pure PP 52 [L l 2 Rg.d] (L (srt l) 2 Rg.d) := by
  refine pr F52 (by kernel_rfl) (of_eq (n58 l _) ⟨eClR l hne hl, eSoR l hne hl, ⟨_, (RetLe.lay (sz := 2) (n := l.length) (get := fun i => Rg.d ((srt l).getD i default)) rfl (by rw [srt_len]; exact Nat.le_refl _) (ElemsOf.cells fun k _ => ⟨rfl, rfl, rfl⟩)).trans (RetLe.wk ?_ rfl)⟩⟩)
  rw [← srt_len]; exact Wk.refl _

def goOk (n at_ : Int) : List Rg → Bool
  | [] => true
  | x :: r => bif bif bif bif decide (x.frm < at_) then true else decide (x.cnt < 1) then true else decide (x.frm > n) then true else decide (x.cnt > subI .i64 n x.frm) then false else goOk n (addI .i64 x.frm x.cnt) r
def spV (n : Int) (l : List Rg) : Bool := bif bif decide (n < 0) then true else decide (n > 1024) then false else goOk n 0 (srt l)
theorem F40 : OkF 40 Tryz.f40 := ⟨by kernel_rfl, by kernel_rfl, by kernel_rfl⟩
def lv40 : List (List Nat × List Nat) := [([1, 1, 1, 0, 1, 0], [0, 5, 15, 16, 17])]
noncomputable def n44s (l : List Rg) : List Nat → Nat → Option Ans := scrAt [([1, 1, 1, 0, 0], 1, Ans.pure [L l 2 Rg.d] (L (srt l) 2 Rg.d))]
theorem n44 [Lay] (n : Int) (l : List Rg) (K : D → Prop) : runS (En Tryz.f40) (fi Tryz.f40 K) (n44s l) lv40 200 [.code []] ⟨argSlots 0 [I n, L l 2 Rg.d], .empty⟩ =
  (bif bif decide (n < 0) then true else decide (n > 1024) then K (B false) else PureW PP 52 [L l 2 Rg.d] [L l 2 Rg.d] (L (srt l) 2 Rg.d) ∧ ((srt l).length ≤ lenM → At (En Tryz.f40) (fi Tryz.f40 K) [It.code [1, 1, 1, 0, 1, 0], It.blk 0, It.code [1, 1, 1, 1]] { sl := [(0, I n), (5, I 0), (15, L (srt l) 2 Rg.d), (16, I (↑(srt l).length : Int)), (17, I 0)], h := Heap.empty : St })) := by kernel_rfl
def S44 (n at_ : Int) (q : List Rg) (i : Int) : St := ⟨[(0, I n), (5, I at_), (15, L q 2 Rg.d), (16, I q.length), (17, I i)], .empty⟩
noncomputable def n44as  : List Nat → Nat → Option Ans := scrAt []
theorem n44a [Lay] (n at_ : Int) (q : List Rg) (i : Int) (J : St → Prop) (K : D → Prop) : runS (En Tryz.f40) (fi Tryz.f40 K) (n44as ) lv40 200 [.code [1, 1, 1, 0, 1, 0, 0], stp [0, 5, 15, 16, 17] J, .blk 0, .code [1, 1, 1, 1]] (S44 n at_ q i) =
  (bif decide (i < (↑q.length : Int)) then (0 ≤ i ∧ i < (↑q.length : Int)) ∧ True ∧ bif bif bif bif decide ((q.getD i.toNat default).frm < at_) then true else decide ((q.getD i.toNat default).cnt < 1) then true else decide ((q.getD i.toNat default).frm > n) then true else decide ((q.getD i.toNat default).cnt > subI .i64 n (q.getD i.toNat default).frm) then K (B false) else J { sl := [(0, I n), (5, I (addI .i64 (q.getD i.toNat default).frm (q.getD i.toNat default).cnt)), (15, L q 2 Rg.d), (16, I (↑q.length : Int)), (17, I (addI .i64 i 1))], h := Heap.empty : St } else K (B true)) := by kernel_rfl
theorem c40 [Lay] (n : Int) (l : List Rg) (hne : l ≠ []) (hl : l.length ≤ 1000000) : Pure PP 40 [I n, L l 2 Rg.d] (B (spV n l)) := by
  refine pu F40 (by kernel_rfl) (of_eq (n44 n l _) (cond_intro (fun h => by simp only [spV, h, cond_true]; exact Wk.refl _) fun h => ⟨PureW.mk (c52 l hne hl), fun hq => ?_⟩))
  have hs : spV n l = goOk n 0 (srt l) := by simp only [spV, h, cond_false]
  rw [hs]
  generalize srt l = q at hq ⊢
  refine lp (fn := Tryz.f40) (fun x : Nat × Int => x.1 ≤ q.length ∧ goOk n 0 q = goOk n x.2 (q.drop x.1)) (fun x => S44 n x.2 q x.1) (fun x => q.length - x.1) [0, 5, 15, 16, 17] (by kernel_rfl) (fun x hx => of_eq (n44a n x.2 q x.1 _ _) ?_) (0, 0) ⟨Nat.zero_le _, rfl⟩
  obtain ⟨i, at_⟩ := x
  obtain ⟨hi, he⟩ := hx
  simp only at hi he ⊢
  refine cond_intro (fun hlt => ?_) fun hge => ?_
  · have hlt := ltI hlt
    rw [add1 hlt hq, Int.toNat_natCast, he, drop_cons _ _ hlt]
    generalize q.getD i default = x
    refine ⟨⟨by omega, by omega⟩, trivial, cond_intro (fun h => ?_) fun h => ?_⟩
    · simp only [goOk, h, cond_true]; exact Wk.refl _
    · refine Nx.mk (i + 1, addI .i64 x.frm x.cnt) ⟨hlt, ?_⟩ (by simp only; omega)
      show goOk n at_ (x :: q.drop (i + 1)) = goOk n (addI .i64 x.frm x.cnt) (q.drop (i + 1))
      simp only [goOk, h, cond_false]
  · have := geI hge
    rw [he]
    simp only [List.drop_of_length_le this]
    exact Wk.refl _

/-! the law -/
end Go.Proofs.YtmlhaikblfjghaaGreatDoor.S1
/- Seat 1: valid directories. -/
namespace Go.Proofs.YtmlhaikblfjghaaGreatDoor.S1
open Go Go.Ab Go.Proofs
theorem pw [Lay] {P : Program} {f : Nat} {args args' : List D} {v : D} (h : Wks args args') (p : Ab.Pure P f args' v) : PureW P f args args' v := ⟨h, p⟩
theorem F31 : OkF 31 Tryz.f31 := ⟨by kernel_rfl, by kernel_rfl, by kernel_rfl⟩
def lv31 : List (List Nat × List Nat) := [([1, 1, 1, 0, 1, 0], [1, 3, 18, 19, 20])]
noncomputable def n27s (d : Dir) : List Nat → Nat → Option Ans := scrAt [([1, 0, 0], 2, Ans.pure [d.hdr.d] (B (fits d.hdr)))]
theorem n27 [Lay] (d : Dir) (K : D → Prop) : runS (En Tryz.f31) (fi Tryz.f31 K) (n27s d) lv31 200 [.code []] ⟨argSlots 0 [d.d], .empty⟩ =
  (PureW PP 39 [d.hdr.d] [d.hdr.d] (B (fits d.hdr)) ∧ (((!!fits d.hdr) = true → d.blk.length ≤ lenM) → bif bif !fits d.hdr then true else decide ((↑d.blk.length : Int) > 32) then K (B false) else d.blk.length ≤ lenM → At (En Tryz.f31) (fi Tryz.f31 K) [It.code [1, 1, 1, 0, 1, 0], It.blk 0, It.code [1, 1, 1, 1]] { sl := [(1, .own [I d.hdr.sec, I d.hdr.len, I d.hdr.sum, L d.blk 7 Ent.d]), (3, I (-1)), (18, L d.blk 7 Ent.d), (19, I (↑d.blk.length : Int)), (20, I 0)], h := Heap.empty : St })) := by kernel_rfl
def S27 (d : Dir) (at_ i : Int) : St := ⟨[(1, .own [I d.hdr.sec, I d.hdr.len, I d.hdr.sum, L d.blk 7 Ent.d]), (3, I at_), (18, L d.blk 7 Ent.d), (19, I d.blk.length), (20, I i)], .empty⟩
noncomputable def n27as (d : Dir) (i : Int) : List Nat → Nat → Option Ans := scrAt [([1, 1, 1, 0, 1, 0, 0, 1, 1, 0, 0, 1, 1, 0, 0], 19, Ans.pure [(d.blk.getD i.toNat default).plc.d] (B (fits (d.blk.getD i.toNat default).plc))), ([1, 1, 1, 1, 0], 1, Ans.eff (Ab.LT (regs d) 2 Rg.d 0) (hT Heap.empty (regs d).length)), ([1, 1, 1, 1, 0], 5, Ans.pure [I 1024, L (regs d ++ [{ frm := 0, cnt := 4 : Rg }]) 2 Rg.d] (B (spV 1024 (regs d ++ [{ frm := 0, cnt := 4 : Rg }]))))]
theorem n27a [Lay] (d : Dir) (at_ i : Int) (J : St → Prop) (K : D → Prop) : runS (En Tryz.f31) (fi Tryz.f31 K) (n27as d i) lv31 200 [.code [1, 1, 1, 0, 1, 0, 0], stp [1, 3, 18, 19, 20] J, .blk 0, .code [1, 1, 1, 1]] (S27 d at_ i) =
  (bif decide (i < (↑d.blk.length : Int)) then (0 ≤ i ∧ i < (↑d.blk.length : Int)) ∧ True ∧ ((!bif bif (d.blk.getD i.toNat default).frm != at_ then true else decide ((d.blk.getD i.toNat default).to ≤ (d.blk.getD i.toNat default).frm) then true else decide ((d.blk.getD i.toNat default).to > 1099511627776)) = true → PureW PP 39 [(d.blk.getD i.toNat default).plc.d] [(d.blk.getD i.toNat default).plc.d] (B (fits (d.blk.getD i.toNat default).plc))) ∧ bif bif bif bif bif bif bif bif (d.blk.getD i.toNat default).frm != at_ then true else decide ((d.blk.getD i.toNat default).to ≤ (d.blk.getD i.toNat default).frm) then true else decide ((d.blk.getD i.toNat default).to > 1099511627776) then true else !fits (d.blk.getD i.toNat default).plc then true else decide ((d.blk.getD i.toNat default).lvl < 0) then true else decide ((d.blk.getD i.toNat default).lvl > 2) then true else bif (d.blk.getD i.toNat default).lvl == 1 then bif decide ((d.blk.getD i.toNat default).stp < 1) then true else decide ((d.blk.getD i.toNat default).stp > 1099511627776) else false then true else bif !(d.blk.getD i.toNat default).lvl == 1 then (d.blk.getD i.toNat default).stp != 0 else false then K (B false) else J { sl := [(1, .own [I d.hdr.sec, I d.hdr.len, I d.hdr.sum, L d.blk 7 Ent.d]), (3, I (d.blk.getD i.toNat default).to), (18, L d.blk 7 Ent.d), (19, I (↑d.blk.length : Int)), (20, I (addI .i64 i 1))], h := Heap.empty : St }
 else Does PP 41 [.agg [I d.hdr.sec, I d.hdr.len, I d.hdr.sum, L d.blk 7 Ent.d]] Heap.empty (Ab.LT (regs d) 2 Rg.d 0) (hT Heap.empty (regs d).length) ∧ (upd (fun _ => none) 0 (some (regs d).length) 0 = some (regs d).length ∧ ((regs d).length + 1) * 16 ≤ roomM) ∧ PureW PP 40 [I 1024, .list ((regs d).length + 1) 2 (catG (regs d).length (fun i => ((regs d).getD i default).d) (litG [.agg [I 0, I 4]])) (.tok 0 2)] [I 1024, L (regs d ++ [{ frm := 0, cnt := 4 : Rg }]) 2 Rg.d] (B (spV 1024 (regs d ++ [{ frm := 0, cnt := 4 : Rg }]))) ∧ K (B (spV 1024 (regs d ++ [{ frm := 0, cnt := 4 : Rg }])))) := by kernel_rfl

/-- An entry behind time at_ that is not valid. -/
def entBad (at_ : Int) (x : Ent) : Bool :=
  bif bif bif bif bif bif bif x.frm != at_ then true else decide (x.to ≤ x.frm) then true else decide (x.to > 1099511627776) then true else !fits x.plc then true else decide (x.lvl < 0) then true else decide (x.lvl > 2) then true
    else bif x.lvl == 1 then bif decide (x.stp < 1) then true else decide (x.stp > 1099511627776) else false then true else bif !x.lvl == 1 then x.stp != 0 else false
def entP (at_ : Int) : List Ent → Bool
  | [] => true
  | x :: r => bif entBad at_ x then false else entP x.to r
def dirOk (d : Dir) : Bool := bif bif !fits d.hdr then true else decide ((d.blk.length : Int) > 32) then false else bif entP (-1) d.blk then spV 1024 (regs d ++ [⟨0, 4⟩]) else false
theorem c31 [Lay] (d : Dir) : Pure PP 31 [d.d] (B (dirOk d)) := by
  refine pu F31 (by kernel_rfl) (of_eq (n27 d _) ⟨PureW.mk (c39 _), fun _ => cond_intro (fun h => by simp only [dirOk, h, cond_true]; exact Wk.refl _) fun h hl => ?_⟩)
  have hle : d.blk.length ≤ 32 := by simp at h; omega
  have hd : dirOk d = bif entP (-1) d.blk then spV 1024 (regs d ++ [⟨0, 4⟩]) else false := by simp only [dirOk, h, cond_false]
  rw [hd]
  refine lp (fn := Tryz.f31) (fun x : Nat × Int => x.1 ≤ d.blk.length ∧ entP (-1) d.blk = entP x.2 (d.blk.drop x.1)) (fun x => S27 d x.2 x.1) (fun x => d.blk.length - x.1) [1, 3, 18, 19, 20] (by kernel_rfl) (fun x hx => of_eq (n27a d x.2 x.1 _ _) ?_) (0, -1) ⟨Nat.zero_le _, rfl⟩
  obtain ⟨i, at_⟩ := x
  obtain ⟨hi, he⟩ := hx
  simp only at hi he ⊢
  refine cond_intro (fun hlt => ?_) fun hge => ?_
  · have hlt := ltI hlt
    rw [add1 hlt hl, Int.toNat_natCast, he, drop_cons _ _ hlt]
    generalize d.blk.getD i default = x
    refine ⟨⟨by omega, by omega⟩, trivial, fun _ => PureW.mk (c39 _), cond_intro (fun h => ?_) fun h => ?_⟩
    · have hb : entBad at_ x = true := h
      simp only [entP, hb, cond_true, cond_false]; exact Wk.refl _
    · have hb : entBad at_ x = false := h
      refine Nx.mk (i + 1, x.to) ⟨hlt, ?_⟩ (by simp only; omega)
      show entP at_ (x :: d.blk.drop (i + 1)) = entP x.to (d.blk.drop (i + 1))
      simp only [entP, hb, cond_false]
  · have := geI hge
    rw [he]
    simp only [List.drop_of_length_le this, entP, cond_true]
    refine ⟨e41 d (by omega), ⟨rfl, by simp [regs, roomM]; omega⟩, pw (Wks.cons (Wk.refl _) (Wks.cons (Wk.snocL (x := (⟨0, 4⟩ : Rg))) Wks.nil)) (c40 _ _ (by simp) (by simp [regs]; omega)), Wk.refl _⟩

/-! the law -/
end Go.Proofs.YtmlhaikblfjghaaGreatDoor.S1
/- Seat 1: plans. -/
namespace Go.Proofs.YtmlhaikblfjghaaGreatDoor.S1
open Go Go.Ab Go.Proofs
theorem dirOk_len {d : Dir} (h : dirOk d = true) : d.blk.length ≤ 32 := by
  unfold dirOk at h
  cases hc : (bif !fits d.hdr then true else decide ((d.blk.length : Int) > 32)) with
  | true => rw [hc] at h; cases h
  | false => simp at hc; omega
end Go.Proofs.YtmlhaikblfjghaaGreatDoor.S1
/- Seat 1: the reference's plans; equal lists. -/
namespace Go.Proofs.YtmlhaikblfjghaaGreatDoor.S1
open Go Go.Ab Go.Proofs
end Go.Proofs.YtmlhaikblfjghaaGreatDoor.S1
/- Seat 1: groups of blocks. -/
namespace Go.Proofs.YtmlhaikblfjghaaGreatDoor.S1
open Go Go.Ab Go.Proofs
theorem F32 : OkF 32 Tryz.f32 := ⟨by kernel_rfl, by kernel_rfl, by kernel_rfl⟩
def lv32 : List (List Nat × List Nat) := [([1, 1, 0, 1, 0], [1, 2, 5, 6]), ([1, 1, 0, 1, 0, 0, 1, 0, 1, 0, 0], [1, 2, 5, 6, 7, 8])]
noncomputable def n42s  : List Nat → Nat → Option Ans := scrAt []
theorem n42 [Lay] (d : Dir) (m : Int) (K : D → Prop) : runS (En Tryz.f32) (fi Tryz.f32 K) (n42s ) lv32 200 [.code []] ⟨argSlots 0 [d.d, I m], .empty⟩ =
  (At (En Tryz.f32) (fi Tryz.f32 K) [It.code [1, 1, 0, 1, 0], It.blk 0, It.code [1, 1, 1]] { sl := [(1, I m), (2, .own [I d.hdr.sec, I d.hdr.len, I d.hdr.sum, L d.blk 7 Ent.d]), (5, .list 0 0 (fun _ => D.junk) .full), (6, I 0)], h := Heap.empty : St }) := by kernel_rfl
def S42 (d : Dir) (m : Int) (out : List Rg) (i : Int) : St := ⟨[(1, I m), (2, .own [I d.hdr.sec, I d.hdr.len, I d.hdr.sum, L d.blk 7 Ent.d]), (5, LT out 2 Rg.d 0), (6, I i)], hT .empty out.length⟩
noncomputable def n42as  : List Nat → Nat → Option Ans := scrAt []
theorem n42a [Lay] (d : Dir) (m : Int) (out : List Rg) (i : Int) (J : St → Prop) (K : D → Prop) : runS (En Tryz.f32) (fi Tryz.f32 K) (n42as ) lv32 200 [.code [1, 1, 0, 1, 0, 0], stp [1, 2, 5, 6] J, .blk 0, .code [1, 1, 1]] (S42 d m out i) =
  (d.blk.length ≤ lenM → bif decide (i < (↑d.blk.length : Int)) then At (En Tryz.f32) (fi Tryz.f32 K) [It.code [1, 1, 0, 1, 0, 0, 1, 0, 1, 0, 0], It.blk 2, It.code [1, 1, 0, 1, 0, 0, 1, 0, 1, 1], It.blk 1, stp [1, 2, 5, 6] J, It.blk 0, It.code [1, 1, 1]] { sl := [(1, I m), (2, .own [I d.hdr.sec, I d.hdr.len, I d.hdr.sum, L d.blk 7 Ent.d]), (5, .list out.length 2 (fun i => (out.getD i default).d) (.tok 0 2)), (6, I i), (7, I 0), (8, I 0)], h := { box := fun _ => none, nl := 0, hw := upd (fun _ => none) 0 (some out.length), nt := 1, vw := fun _ => none : Heap } : St } else K (.list out.length 2 (fun i => (out.getD i default).d) (.tok 0 2))) := by kernel_rfl
def T42 (d : Dir) (m : Int) (out : List Rg) (i n total : Int) : St := ⟨[(1, I m), (2, .own [I d.hdr.sec, I d.hdr.len, I d.hdr.sum, L d.blk 7 Ent.d]), (5, LT out 2 Rg.d 0), (6, I i), (7, I n), (8, I total)], hT .empty out.length⟩
noncomputable def n42bs  : List Nat → Nat → Option Ans := scrAt []
theorem n42b [Lay] (d : Dir) (m : Int) (out : List Rg) (i n total : Int) (J J2 : St → Prop) (K : D → Prop) : runS (En Tryz.f32) (fi Tryz.f32 K) (n42bs ) lv32 200 [.code [1, 1, 0, 1, 0, 0, 1, 0, 1, 0, 0, 0], stp [1, 2, 5, 6, 7, 8] J, .blk 2, .code [1, 1, 0, 1, 0, 0, 1, 0, 1, 1], .blk 1, stp [1, 2, 5, 6] J2, .blk 0, .code [1, 1, 1]] (T42 d m out i n total) =
  (d.blk.length ≤ lenM →
  (decide (addI .i64 i n < (↑d.blk.length : Int)) = true → 0 ≤ addI .i64 i n ∧ addI .i64 i n < (↑d.blk.length : Int)) ∧
    (((bif decide (addI .i64 i n < (↑d.blk.length : Int)) then (d.blk.getD (addI .i64 i n).toNat default).lvl == 0 else false) && !n == 0) = true → 0 ≤ addI .i64 i n ∧ addI .i64 i n < (↑d.blk.length : Int)) ∧
      bif bif bif decide (addI .i64 i n < (↑d.blk.length : Int)) then (d.blk.getD (addI .i64 i n).toNat default).lvl == 0 else false then bif n == 0 then true else decide (addI .i64 total (d.blk.getD (addI .i64 i n).toNat default).plc.len ≤ m) else false then (0 ≤ addI .i64 i n ∧ addI .i64 i n < (↑d.blk.length : Int)) ∧ J { sl := [(1, I m), (2, .own [I d.hdr.sec, I d.hdr.len, I d.hdr.sum, L d.blk 7 Ent.d]), (5, .list out.length 2 (fun i => (out.getD i default).d) (.tok 0 2)), (6, I i), (7, I (addI .i64 n 1)), (8, I (addI .i64 total (d.blk.getD (addI .i64 i n).toNat default).plc.len))], h := { box := fun _ => none, nl := 0, hw := upd (fun _ => none) 0 (some out.length), nt := 1, vw := fun _ => none : Heap } : St }
      else bif decide (n ≥ 2) then (upd (fun _ => none) 0 (some out.length) 0 = some out.length ∧ (out.length + 1) * 16 ≤ roomM) ∧ J2 { sl := [(1, I m), (2, .own [I d.hdr.sec, I d.hdr.len, I d.hdr.sum, L d.blk 7 Ent.d]), (5, .list (out.length + 1) 2 (catG out.length (fun i => (out.getD i default).d) (litG [.agg [I i, I n]])) (.tok 0 2)), (6, I (addI .i64 i (if 1 > n then 1 else n)))], h := { box := fun _ => none, nl := 0, hw := upd (upd (fun _ => none) 0 (some out.length)) 0 (some (out.length + 1)), nt := 1, vw := fun _ => none : Heap } : St } else J2 { sl := [(1, I m), (2, .own [I d.hdr.sec, I d.hdr.len, I d.hdr.sum, L d.blk 7 Ent.d]), (5, .list out.length 2 (fun i => (out.getD i default).d) (.tok 0 2)), (6, I (addI .i64 i (if 1 > n then 1 else n)))], h := { box := fun _ => none, nl := 0, hw := upd (fun _ => none) 0 (some out.length), nt := 1, vw := fun _ => none : Heap } : St }) := by kernel_rfl

/-- How many blocks from here on are joined, n of them (of so many bytes) taken. -/
def runG (m : Int) : Nat → Int → List Ent → Nat
  | n, _, [] => n
  | n, total, x :: r => bif (bif x.lvl == 0 then bif (n : Int) == 0 then true else decide (addI .i64 total x.plc.len ≤ m) else false) then runG m (n + 1) (addI .i64 total x.plc.len) r else n
def grps (m : Int) : Nat → Nat → List Ent → List Rg
  | 0, _, _ => []
  | _ + 1, _, [] => []
  | k + 1, i, x :: r => (if 2 ≤ runG m 0 0 (x :: r) then [⟨i, runG m 0 0 (x :: r)⟩] else []) ++ grps m k (i + max (runG m 0 0 (x :: r)) 1) ((x :: r).drop (max (runG m 0 0 (x :: r)) 1))
def groups (d : Dir) (m : Int) : List Rg := grps m (d.blk.length + 1) 0 d.blk
theorem c32 [Lay] (d : Dir) (m : Int) (hm : d.blk.length ≤ 1000) : Pure PP 32 [d.d, I m] (L (groups d m) 2 Rg.d) := by
  refine pu F32 (by kernel_rfl) (of_eq (n42 d m _) ?_)
  refine at_le (st' := S42 d m [] (0 : Nat)) ?_ (StLe.tok0 _ (α := Rg) (enc := Rg.d) 5 2 rfl)
  refine lp (fn := Tryz.f32) (fun x : Nat × List Rg × Nat => x.1 ≤ d.blk.length ∧ d.blk.length - x.1 < x.2.2 ∧ x.2.1.length ≤ x.1 ∧ groups d m = x.2.1 ++ grps m x.2.2 x.1 (d.blk.drop x.1)) (fun x => S42 d m x.2.1 x.1) (fun x => d.blk.length - x.1) [1, 2, 5, 6] (by kernel_rfl)
    (fun x hx => of_eq (n42a d m x.2.1 x.1 _ _) ?_) (0, [], d.blk.length + 1) ⟨Nat.zero_le _, by simp, by simp, rfl⟩
  obtain ⟨i, out, k⟩ := x
  obtain ⟨hi, hk, ho, hg⟩ := hx
  simp only at hi hk ho hg ⊢
  refine fun hl => cond_intro (fun hlt => ?_) fun hge => ?_
  · have hlt2 := ltI hlt
    refine lp (fn := Tryz.f32) (fun y : Nat × Int => i + y.1 ≤ d.blk.length ∧ runG m 0 0 (d.blk.drop i) = runG m y.1 y.2 (d.blk.drop (i + y.1))) (fun y => T42 d m out i y.1 y.2) (fun y => d.blk.length - i - y.1) [1, 2, 5, 6, 7, 8] (by kernel_rfl)
      (fun y hy => of_eq (n42b d m out i y.1 y.2 _ _ _) ?_) (0, 0) ⟨hi, rfl⟩
    obtain ⟨n, total⟩ := y
    obtain ⟨hn, hr⟩ := hy
    simp only at hn hr ⊢
    have ha : addI .i64 (i : Int) (n : Int) = ((i + n : Nat) : Int) := by rw [add64 (by omega) (by omega)]; rfl
    rw [ha, Int.toNat_natCast]
    refine fun _ => ⟨fun h => ⟨by omega, by simpa using h⟩, fun h => ?_, cond_intro (fun hc => ⟨?_, ?_⟩) fun hc => ?_⟩
    · have : i + n < d.blk.length := by
        rcases Nat.lt_or_ge (i + n) d.blk.length with h1 | h1
        · exact h1
        · have : decide (((i + n : Nat) : Int) < (d.blk.length : Int)) = false := by simp; omega
          rw [this] at h; simp at h
      exact ⟨by omega, by omega⟩
    · have : i + n < d.blk.length := by
        rcases Nat.lt_or_ge (i + n) d.blk.length with h1 | h1
        · exact h1
        · have : decide (((i + n : Nat) : Int) < (d.blk.length : Int)) = false := by simp; omega
          rw [this] at hc; simp at hc
      exact ⟨by omega, by omega⟩
    · have hin : i + n < d.blk.length := by
        rcases Nat.lt_or_ge (i + n) d.blk.length with h1 | h1
        · exact h1
        · have : decide (((i + n : Nat) : Int) < (d.blk.length : Int)) = false := by simp; omega
          rw [this] at hc; simp at hc
      have hd : decide (((i + n : Nat) : Int) < (d.blk.length : Int)) = true := by simp; omega
      rw [hd, cond_true] at hc
      rw [drop_cons _ _ hin] at hr
      have hn1 : addI .i64 (n : Int) 1 = ((n + 1 : Nat) : Int) := by rw [add64 (by omega) (by omega)]; rfl
      rw [hn1]
      refine Nx.mk (n + 1, addI .i64 total (d.blk.getD (i + n) default).plc.len) ⟨by simp only; omega, ?_⟩ (by simp only; omega)
      rw [hr]
      simp only [runG, hc, cond_true]
      rfl
    · have hrun : runG m 0 0 (d.blk.drop i) = n := by
        rw [hr]
        rcases Nat.lt_or_ge (i + n) d.blk.length with h1 | h1
        · have hd : decide (((i + n : Nat) : Int) < (d.blk.length : Int)) = true := by simp; omega
          rw [hd, cond_true] at hc
          rw [drop_cons _ _ h1]
          simp only [runG, hc, cond_false]
        · rw [List.drop_of_length_le h1]; rfl
      have hmx : addI .i64 (i : Int) (if 1 > (n : Int) then 1 else (n : Int)) = ((i + max n 1 : Nat) : Int) := by
        split <;> rw [add64 (by omega) (by omega)] <;> omega
      rw [hmx]
      obtain ⟨k', rfl⟩ : ∃ k', k = k' + 1 := ⟨k - 1, by omega⟩
      have hg' : groups d m = out ++ ((if 2 ≤ n then [⟨i, n⟩] else []) ++ grps m k' (i + max n 1) (d.blk.drop (i + max n 1))) := by
        rw [hg]
        have hcons := drop_cons _ _ hlt2
        rw [hcons] at hrun ⊢
        simp only [grps, hrun]
        rw [← hcons, List.drop_drop]
      refine cond_intro (fun h2 => ⟨⟨rfl, by unfold roomM; omega⟩, ?_⟩) fun h2 => ?_
      · have h2 : 2 ≤ n := by simp at h2; omega
        rw [if_pos h2, ← List.append_assoc] at hg'
        refine Nx.of (i + max n 1, out ++ [⟨i, n⟩], k') ⟨by simp only; omega, by simp only; omega, by simp; omega, hg'⟩ (by simp only; omega) ?_
        exact (StLe.set 5 rfl (Wk.snoc (x := (⟨i, n⟩ : Rg))) rfl rfl).trans (StLe.heap (by simp [hT, upd_upd, Heap.empty]))
      · have h2 : ¬ 2 ≤ n := by simp at h2; omega
        rw [if_neg h2, List.nil_append] at hg'
        exact Nx.mk (i + max n 1, out, k') ⟨by simp only; omega, by simp only; omega, by simp only; omega, hg'⟩ (by simp only; omega)
  · have := geI hge
    rw [List.drop_of_length_le this] at hg
    have : grps m k i [] = [] := by cases k <;> rfl
    rw [this, List.append_nil] at hg
    rw [hg]
    exact Wk.tokL
end Go.Proofs.YtmlhaikblfjghaaGreatDoor.S1
/- Seat 1: plans of groups; copies. -/
namespace Go.Proofs.YtmlhaikblfjghaaGreatDoor.S1
open Go Go.Ab Go.Proofs
structure Gp where (frm to : Int) deriving Inhabited, DecidableEq
def Gp.d (x : Gp) : D := .agg [I x.frm, I x.to]
structure Cg where (time : Int) (val : Str) deriving Inhabited, DecidableEq
def Cg.d (x : Cg) : D := .agg [I x.time, .str x.val]
structure Chk where (frm to : Int) (vals : List Str) (chg : List (List Cg)) (gaps : List Gp) deriving Inhabited, DecidableEq
def Chk.d (x : Chk) : D := .agg [I x.frm, I x.to, L x.vals 1 .str, L x.chg 1 (fun l => L l 2 Cg.d), L x.gaps 2 Gp.d]
instance {x : Gp} : DD x.d := inferInstanceAs (DD (.agg _))
instance {x : Cg} : DD x.d := inferInstanceAs (DD (.agg _))
instance {x : Chk} : DD x.d := inferInstanceAs (DD (.agg _))
instance {b : Bool} {n sz : Nat} {get : Nat → D} [h : ∀ i, DD (get i)] : DD (.list n sz get (.nz b)) := ⟨⟨fun i _ => (h i).p, fun _ _ h => by cases h⟩⟩
/-- A slice of which it is known whether it is nil. -/
def Lz {α : Type} [Inhabited α] (es : List α) (sz : Nat) (enc : α → D) (b : Bool) : D := .list es.length sz (fun i => enc (es.getD i default)) (.nz b)
instance {α : Type} [Inhabited α] {es : List α} {sz : Nat} {enc : α → D} {b : Bool} [h : ∀ x, DD (enc x)] : DD (Lz es sz enc b) := ⟨⟨fun i _ => (h _).p, fun _ _ h => by cases h⟩⟩

theorem zeroLen {α : Type} {es : List α} (h : es.length = 0) : es = [] := List.length_eq_zero_iff.1 h
theorem wkClone {α : Type} [Inhabited α] {es : List α} {sz t : Nat} {enc : α → D} : Wk (.list (0 + es.length) sz (catG 0 (litG []) fun i => enc (es.getD i default)) (.tok t sz)) (L es sz enc) := by
  rw [Nat.zero_add, catG_nil]; exact Wk.tokL
theorem wkJoin {α : Type} [Inhabited α] {a b : List α} {sz t : Nat} {enc : α → D} : Wk (.list ((↑a.length : Int).toNat - 0 + b.length) sz (catG ((↑a.length : Int).toNat - 0) (dropG (fun i => enc (a.getD i default)) 0) fun i => enc (b.getD i default)) (.tok t sz)) (L (a ++ b) sz enc) := by
  rw [Int.toNat_natCast, Nat.sub_zero, dropG_nil]; exact Wk.appsL

theorem F21 : OkF 21 Tryz.f21 := ⟨by kernel_rfl, by kernel_rfl, by kernel_rfl⟩
def lv21 : List (List Nat × List Nat) := []
noncomputable def nCloSs  : List Nat → Nat → Option Ans := scrAt []
theorem nCloS [Lay] (es : List Str) (b : Bool) (K : D → Prop) : runS (En Tryz.f21) (fi Tryz.f21 K) (nCloSs ) lv21 200 [.code []] ⟨argSlots 0 [Lz es 1 .str b], .empty⟩ =
  (bif b then K (.list 0 0 (fun _ => D.junk) .full) else (0 + es.length) * 16 ≤ roomM ∧ K (.list (0 + es.length) 1 (catG 0 (litG []) fun i => .str (es.getD i default)) (.tok 0 1))) := by kernel_rfl
theorem c21 [Lay] (es : List Str) (hl : es.length ≤ 1000000) : Pure PP 21 [L es 1 .str] (L es 1 .str) := Pure.nz1 fun b hb => pu (args := [Lz es 1 .str b]) F21 (by kernel_rfl) (of_eq (nCloS es b _) (cond_intro (fun h => by
  rw [zeroLen (hb h)]; exact Wk.nilL) fun _ => ⟨by unfold roomM; omega, wkClone⟩))
theorem F25 : OkF 25 Tryz.f25 := ⟨by kernel_rfl, by kernel_rfl, by kernel_rfl⟩
def lv25 : List (List Nat × List Nat) := []
noncomputable def nCloCs  : List Nat → Nat → Option Ans := scrAt []
theorem nCloC [Lay] (es : List Cg) (b : Bool) (K : D → Prop) : runS (En Tryz.f25) (fi Tryz.f25 K) (nCloCs ) lv25 200 [.code []] ⟨argSlots 0 [Lz es 2 Cg.d b], .empty⟩ =
  (bif b then K (.list 0 0 (fun _ => D.junk) .full) else (0 + es.length) * 24 ≤ roomM ∧ K (.list (0 + es.length) 2 (catG 0 (litG []) fun i => (es.getD i default).d) (.tok 0 2))) := by kernel_rfl
theorem c25 [Lay] (es : List Cg) (hl : es.length ≤ 1000000) : Pure PP 25 [L es 2 Cg.d] (L es 2 Cg.d) := Pure.nz1 fun b hb => pu (args := [Lz es 2 Cg.d b]) F25 (by kernel_rfl) (of_eq (nCloC es b _) (cond_intro (fun h => by
  rw [zeroLen (hb h)]; exact Wk.nilL) fun _ => ⟨by unfold roomM; omega, wkClone⟩))
theorem F26 : OkF 26 Tryz.f26 := ⟨by kernel_rfl, by kernel_rfl, by kernel_rfl⟩
def lv26 : List (List Nat × List Nat) := []
noncomputable def nCloGs  : List Nat → Nat → Option Ans := scrAt []
theorem nCloG [Lay] (es : List Gp) (b : Bool) (K : D → Heap → Prop) : runS (EnV [] [7] Tryz.f26) (fh Tryz.f26 K) (nCloGs ) lv26 200 [.code []] ⟨argSlots 0 [Lz es 2 Gp.d b], .empty⟩ =
  (bif b then K (.list 0 0 (fun _ => D.junk) .full) Heap.empty else ((0 < es.length ∨ 0 = 0) ∧ (0 + es.length) * 16 ≤ roomM) ∧ K (D.vec 0 (0 + es.length) 2) { box := fun _ => none, nl := 0, hw := upd (fun _ => none) 0 (some (0 + es.length)), nt := 1, vw := upd (fun _ => none) 0 (some (catG 0 (litG []) fun i => (es.getD i default).d)) : Heap }) := by kernel_rfl
theorem retClone [Lay] {α : Type} [Inhabited α] {es : List α} {sz : Nat} {enc : α → D} : RetLe (.vec 0 (0 + es.length) sz) ⟨fun _ => none, 0, upd (fun _ => none) 0 (some (0 + es.length)), 0 + 1, upd (fun _ => none) 0 (some (catG 0 (litG []) fun i => enc (es.getD i default)))⟩ (.vec 0 es.length sz) (hVec es enc) := by
  rw [Nat.zero_add, catG_nil]; exact RetLe.refl _ _
theorem e26 [Lay] (es : List Gp) (hl : es.length ≤ 1000000) : Does PP 26 [L es 2 Gp.d] .empty (.vec 0 es.length 2) (hVec es Gp.d) := Does.nz1 fun b hb => du (args := [Lz es 2 Gp.d b]) F26 (by kernel_rfl) (of_eq (nCloG es b _) (cond_intro (fun h => by
  rw [zeroLen (hb h)]; exact RetLe.idle (some (cv [] Gp.d)) 2 (fun _ => .junk)) fun _ => ⟨⟨.inr rfl, by unfold roomM; omega⟩, retClone⟩))

theorem F24 : OkF 24 Tryz.f24 := ⟨by kernel_rfl, by kernel_rfl, by kernel_rfl⟩
def lv24 : List (List Nat × List Nat) := []
noncomputable def nJoiCs  : List Nat → Nat → Option Ans := scrAt []
theorem nJoiC [Lay] (a b : List Cg) (K : D → Prop) : runS (En Tryz.f24) (fi Tryz.f24 K) (nJoiCs ) lv24 200 [.code []] ⟨argSlots 0 [L a 2 Cg.d, L b 2 Cg.d], .empty⟩ =
  (a.length ≤ lenM → a.length ≤ lenM → ((0 : Int) ≤ 0 ∧ 0 ≤ (↑a.length : Int) ∧ (↑a.length : Int) ≤ (↑a.length : Int) ∧ (↑a.length : Int) = (↑a.length : Int)) ∧ ((↑a.length : Int).toNat - 0 + b.length) * 24 ≤ roomM ∧ K (.list ((↑a.length : Int).toNat - 0 + b.length) 2 (catG ((↑a.length : Int).toNat - 0) (dropG (fun i => (a.getD i default).d) 0) fun i => (b.getD i default).d) (.tok 0 2))) := by kernel_rfl
theorem c24 [Lay] (a b : List Cg) (ha : a.length ≤ 1000000) (hb : b.length ≤ 1000000) : Pure PP 24 [L a 2 Cg.d, L b 2 Cg.d] (L (a ++ b) 2 Cg.d) :=
  pu F24 (by kernel_rfl) (of_eq (nJoiC a b _) fun _ _ => ⟨⟨by omega, by omega, by omega, rfl⟩, by unfold roomM; omega, wkJoin⟩)
theorem F27 : OkF 27 Tryz.f27 := ⟨by kernel_rfl, by kernel_rfl, by kernel_rfl⟩
def lv27 : List (List Nat × List Nat) := []
noncomputable def nJoiGs  : List Nat → Nat → Option Ans := scrAt []
theorem nJoiG [Lay] (a b : List Gp) (K : D → Prop) : runS (En Tryz.f27) (fi Tryz.f27 K) (nJoiGs ) lv27 200 [.code []] ⟨argSlots 0 [L a 2 Gp.d, L b 2 Gp.d], .empty⟩ =
  (a.length ≤ lenM → a.length ≤ lenM → ((0 : Int) ≤ 0 ∧ 0 ≤ (↑a.length : Int) ∧ (↑a.length : Int) ≤ (↑a.length : Int) ∧ (↑a.length : Int) = (↑a.length : Int)) ∧ ((↑a.length : Int).toNat - 0 + b.length) * 16 ≤ roomM ∧ K (.list ((↑a.length : Int).toNat - 0 + b.length) 2 (catG ((↑a.length : Int).toNat - 0) (dropG (fun i => (a.getD i default).d) 0) fun i => (b.getD i default).d) (.tok 0 2))) := by kernel_rfl
theorem c27 [Lay] (a b : List Gp) (ha : a.length ≤ 1000000) (hb : b.length ≤ 1000000) : Pure PP 27 [L a 2 Gp.d, L b 2 Gp.d] (L (a ++ b) 2 Gp.d) :=
  pu F27 (by kernel_rfl) (of_eq (nJoiG a b _) fun _ _ => ⟨⟨by omega, by omega, by omega, rfl⟩, by unfold roomM; omega, wkJoin⟩)
end Go.Proofs.YtmlhaikblfjghaaGreatDoor.S1
/- Seat 1: the values of a chunk at a time. -/
namespace Go.Proofs.YtmlhaikblfjghaaGreatDoor.S1
open Go Go.Ab Go.Proofs
def valAt (v : Str) (l : List Cg) (t : Int) : Str := l.foldl (fun v x => bif decide (x.time ≤ t) then x.val else v) v
def valsAt (c : Chk) (t : Int) : List Str := (List.range c.vals.length).map fun i => valAt (c.vals.getD i default) (c.chg.getD i default) t

noncomputable def nCloSvs  : List Nat → Nat → Option Ans := scrAt []
theorem nCloSv [Lay] (es : List Str) (b : Bool) (K : D → Heap → Prop) : runS (EnV [] [7] Tryz.f21) (fh Tryz.f21 K) (nCloSvs ) lv21 200 [.code []] ⟨argSlots 0 [Lz es 1 .str b], .empty⟩ =
  (bif b then K (.list 0 0 (fun _ => D.junk) .full) Heap.empty else ((0 < es.length ∨ 0 = 0) ∧ (0 + es.length) * 16 ≤ roomM) ∧ K (D.vec 0 (0 + es.length) 1) { box := fun _ => none, nl := 0, hw := upd (fun _ => none) 0 (some (0 + es.length)), nt := 1, vw := upd (fun _ => none) 0 (some (catG 0 (litG []) fun i => .str (es.getD i default))) : Heap }) := by kernel_rfl
theorem e21 [Lay] (es : List Str) (hl : es.length ≤ 1000000) : Does PP 21 [L es 1 .str] .empty (.vec 0 es.length 1) (hVec es .str) := Does.nz1 fun b hb => du (args := [Lz es 1 .str b]) F21 (by kernel_rfl) (of_eq (nCloSv es b _) (cond_intro (fun h => by
  rw [zeroLen (hb h)]; exact RetLe.idle (some (cv [] .str)) 1 (fun _ => .junk)) fun _ => ⟨⟨.inr rfl, by unfold roomM; omega⟩, retClone⟩))

theorem F22 : OkF 22 Tryz.f22 := ⟨by kernel_rfl, by kernel_rfl, by kernel_rfl⟩
def lv22 : List (List Nat × List Nat) := [([1, 1, 0, 1, 0], [1, 2, 5, 13, 14]), ([1, 1, 0, 1, 0, 0, 1, 1, 0, 0, 1, 1, 0], [1, 2, 5, 6, 13, 14, 21, 22, 23])]
noncomputable def n36s (c : Chk) : List Nat → Nat → Option Ans := scrAt [([1, 0], 2, Ans.eff (D.vec 0 c.vals.length 1) (hVec c.vals .str))]
theorem n36 [Lay] (c : Chk) (t : Int) (K : D → Heap → Prop) : runS (En Tryz.f22) (fh Tryz.f22 K) (n36s c) lv22 200 [.code []] ⟨argSlots 0 [c.d, I t], .empty⟩ =
  (Does PP 21 [L c.vals 1 .str] Heap.empty (D.vec 0 c.vals.length 1) (hVec c.vals .str) ∧ (c.vals.length ≤ lenM → At (En Tryz.f22) (fh Tryz.f22 K) [It.code [1, 1, 0, 1, 0], It.blk 0, It.code [1, 1, 1]] { sl := [(1, I t), (2, .own [I c.frm, I c.to, L c.vals 1 .str, L c.chg 1 fun l => L l 2 Cg.d, L c.gaps 2 Gp.d]), (5, D.vec 0 c.vals.length 1), (13, I (↑c.vals.length : Int)), (14, I 0)], h := { box := fun _ => none, nl := 0, hw := upd (fun _ => none) 0 (some c.vals.length), nt := 1, vw := upd (fun _ => none) 0 (some (cv c.vals .str)) : Heap } : St })) := by kernel_rfl
def S36 (c : Chk) (t : Int) (es : List Str) (i : Int) : St := ⟨[(1, I t), (2, .own [I c.frm, I c.to, L c.vals 1 .str, L c.chg 1 (fun l => L l 2 Cg.d), L c.gaps 2 Gp.d]), (5, .vec 0 es.length 1), (13, I es.length), (14, I i)], hVec es .str⟩
noncomputable def n36as  : List Nat → Nat → Option Ans := scrAt []
theorem n36a [Lay] (c : Chk) (t : Int) (es : List Str) (i : Int) (J : St → Prop) (K : D → Heap → Prop) : runS (En Tryz.f22) (fh Tryz.f22 K) (n36as ) lv22 200 [.code [1, 1, 0, 1, 0, 0], stp [1, 2, 5, 13, 14] J, .blk 0, .code [1, 1, 1]] (S36 c t es i) =
  (bif decide (i < (↑es.length : Int)) then (0 ≤ i ∧ i < (↑c.chg.length : Int)) ∧ ((c.chg.getD i.toNat default).length ≤ lenM → At (En Tryz.f22) (fh Tryz.f22 K) [It.code [1, 1, 0, 1, 0, 0, 1, 1, 0, 0, 1, 1, 0], It.blk 2, It.blk 1, It.code [1, 1, 0, 1, 0, 0, 1, 1, 1], stp [1, 2, 5, 13, 14] J, It.blk 0, It.code [1, 1, 1]] { sl := [(1, I t), (2, .own [I c.frm, I c.to, L c.vals 1 .str, L c.chg 1 fun l => L l 2 Cg.d, L c.gaps 2 Gp.d]), (5, D.vec 0 es.length 1), (6, I i), (13, I (↑es.length : Int)), (14, I i), (21, L (c.chg.getD i.toNat default) 2 Cg.d), (22, I (↑(c.chg.getD i.toNat default).length : Int)), (23, I 0)], h := { box := fun _ => none, nl := 0, hw := upd (fun _ => none) 0 (some es.length), nt := 1, vw := upd (fun _ => none) 0 (some (cv es .str)) : Heap } : St }) else K (D.vec 0 es.length 1) { box := fun _ => none, nl := 0, hw := upd (fun _ => none) 0 (some es.length), nt := 1, vw := upd (fun _ => none) 0 (some (cv es .str)) : Heap }) := by kernel_rfl
def T36 (c : Chk) (t : Int) (es : List Str) (i : Int) (l : List Cg) (k : Int) : St := ⟨[(1, I t), (2, .own [I c.frm, I c.to, L c.vals 1 .str, L c.chg 1 (fun l => L l 2 Cg.d), L c.gaps 2 Gp.d]), (5, .vec 0 es.length 1), (6, I i), (13, I es.length), (14, I i), (21, L l 2 Cg.d), (22, I l.length), (23, I k)], hVec es .str⟩
noncomputable def n36bs  : List Nat → Nat → Option Ans := scrAt []
theorem n36b [Lay] (c : Chk) (t : Int) (es : List Str) (i : Int) (l : List Cg) (k : Int) (J J2 : St → Prop) (K : D → Heap → Prop) : runS (En Tryz.f22) (fh Tryz.f22 K) (n36bs ) lv22 200 [.code [1, 1, 0, 1, 0, 0, 1, 1, 0, 0, 1, 1, 0, 0], stp [1, 2, 5, 6, 13, 14, 21, 22, 23] J, .blk 2, .blk 1, .code [1, 1, 0, 1, 0, 0, 1, 1, 1], stp [1, 2, 5, 13, 14] J2, .blk 0, .code [1, 1, 1]] (T36 c t es i l k) =
  (bif decide (k < (↑l.length : Int)) then (0 ≤ k ∧ k < (↑l.length : Int)) ∧ True ∧ bif decide ((l.getD k.toNat default).time ≤ t) then (upd (fun _ => none) 0 (some es.length) 0 = some es.length ∧ 0 ≤ i ∧ i < (↑es.length : Int)) ∧ upd (fun _ => none) 0 (some es.length) 0 = some es.length ∧ J { sl := [(1, I t), (2, .own [I c.frm, I c.to, L c.vals 1 .str, L c.chg 1 fun l => L l 2 Cg.d, L c.gaps 2 Gp.d]), (5, D.vec 0 es.length 1), (6, I i), (13, I (↑es.length : Int)), (14, I i), (21, L l 2 Cg.d), (22, I (↑l.length : Int)), (23, I (addI .i64 k 1))], h := { box := fun _ => none, nl := 0, hw := upd (fun _ => none) 0 (some es.length), nt := 1, vw := upd (upd (fun _ => none) 0 (some (cv es .str))) 0 (some (setG (cv es .str) i.toNat (.str (l.getD k.toNat default).val))) : Heap } : St } else J { sl := [(1, I t), (2, .own [I c.frm, I c.to, L c.vals 1 .str, L c.chg 1 fun l => L l 2 Cg.d, L c.gaps 2 Gp.d]), (5, D.vec 0 es.length 1), (6, I i), (13, I (↑es.length : Int)), (14, I i), (21, L l 2 Cg.d), (22, I (↑l.length : Int)), (23, I (addI .i64 k 1))], h := { box := fun _ => none, nl := 0, hw := upd (fun _ => none) 0 (some es.length), nt := 1, vw := upd (fun _ => none) 0 (some (cv es .str)) : Heap } : St } else J2 { sl := [(1, I t), (2, .own [I c.frm, I c.to, L c.vals 1 .str, L c.chg 1 fun l => L l 2 Cg.d, L c.gaps 2 Gp.d]), (5, D.vec 0 es.length 1), (13, I (↑es.length : Int)), (14, I (addI .i64 i 1))], h := { box := fun _ => none, nl := 0, hw := upd (fun _ => none) 0 (some es.length), nt := 1, vw := upd (fun _ => none) 0 (some (cv es .str)) : Heap } : St }) := by kernel_rfl

theorem valAt_cons (v : Str) (x : Cg) (l : List Cg) (t : Int) : valAt v (x :: l) t = valAt (bif decide (x.time ≤ t) then x.val else v) l t := rfl
/-- The first i values of f, then those of g. -/
def mixL {α : Type} (f g : Nat → α) (n i : Nat) : List α := (List.range n).map fun j => if j < i then f j else g j
theorem mixL_len {α : Type} (f g : Nat → α) (n i : Nat) : (mixL f g n i).length = n := by simp [mixL]
theorem mixL_set {α : Type} (f g : Nat → α) {n i : Nat} (x : α) (h : x = f i) : (mixL f g n i).set i x = mixL f g n (i + 1) := by
  subst h
  refine List.ext_getElem (by simp [mixL]) fun j h1 h2 => ?_
  rw [List.getElem_set]
  simp only [mixL, List.getElem_map, List.getElem_range]
  by_cases hj : i = j
  · subst hj; simp
  · rw [if_neg hj]
    by_cases hji : j < i
    · rw [if_pos hji, if_pos (by omega)]
    · rw [if_neg hji, if_neg (by omega)]
theorem mixL_same {α : Type} (f g : Nat → α) {n i : Nat} (x : α) (h : x = g i) : (mixL f g n i).set i x = mixL f g n i := by
  subst h
  refine List.ext_getElem (by simp) fun j h1 h2 => ?_
  rw [List.getElem_set]
  simp only [mixL, List.getElem_map, List.getElem_range]
  by_cases hj : i = j
  · subst hj; simp
  · rw [if_neg hj]
theorem mixL_zero {α : Type} [Inhabited α] (f : Nat → α) (l : List α) : mixL f (fun j => l.getD j default) l.length 0 = l := by
  refine List.ext_getElem (by simp [mixL]) fun j h1 h2 => ?_
  simp [mixL, List.getD, h2]
theorem mixL_all {α : Type} (f g : Nat → α) (n : Nat) : mixL f g n n = (List.range n).map f := by
  refine List.map_congr_left fun j hj => ?_
  rw [if_pos (List.mem_range.1 hj)]
theorem hVec_set [Lay] {α : Type} [Inhabited α] {N : Nat} {sl : Slots} {es : List α} {enc : α → D} {k : Nat} {x : α} (hk : k < es.length) :
    StLe N ⟨sl, ⟨fun _ => none, 0, upd (fun _ => none) 0 (some es.length), 1, upd (upd (fun _ => none) 0 (some (cv es enc))) 0 (some (setG (cv es enc) k (enc x)))⟩⟩ ⟨sl, hVec (es.set k x) enc⟩ := by
  rw [upd_upd]
  unfold hVec
  rw [List.length_set]
  exact StLe.vec (upd_same _ _ _) fun i _ => cv_set hk i
theorem retVec [Lay] {α : Type} [Inhabited α] {es : List α} {sz : Nat} {enc : α → D} : RetLe (.vec 0 es.length sz) (hVec es enc) (L es sz enc) (hFrz (hVec es enc) 0) :=
  (RetLe.frz (d := .vec 0 es.length sz) (t := 0) (n := es.length) (f := cv es enc) rfl rfl (show frzOk 0 es.length (.vec 0 es.length sz) by simp [frzOk])).trans (RetLe.wk Wk.tokL rfl)
theorem c22 [Lay] (c : Chk) (t : Int) (hc : c.chg.length = c.vals.length) (hm : c.vals.length ≤ 1000000) : Pure PP 22 [c.d, I t] (L (valsAt c t) 1 .str) := by
  refine pr F22 (by kernel_rfl) (of_eq (n36 c t _) ⟨e21 _ hm, fun _ => ?_⟩)
  let f := fun i => valAt (c.vals.getD i default) (c.chg.getD i default) t
  let g := fun i => c.vals.getD i default
  let n := c.vals.length
  have hn : n ≤ lenM := by unfold lenM; omega
  refine at_le (st' := S36 c t (mixL f g n 0) (0 : Nat)) ?_ (by rw [show mixL f g n 0 = c.vals from mixL_zero _ _]; exact StLe.refl _ _)
  refine lp (fn := Tryz.f22) (fun i : Nat => i ≤ n) (fun i => S36 c t (mixL f g n i) i) (fun i => n - i) [1, 2, 5, 13, 14] (by kernel_rfl) (fun i hi => of_eq (n36a c t _ i _ _) (cond_intro (fun hlt => ?_) fun hge => ?_)) 0 (Nat.zero_le _)
  · have hlt := ltI hlt
    rw [mixL_len] at hlt
    rw [Int.toNat_natCast]
    refine ⟨⟨by omega, by omega⟩, fun hll => ?_⟩
    generalize hld : c.chg.getD i default = l at hll ⊢
    have hfi : f i = valAt (g i) l t := by simp only [f, g, hld]
    refine at_le (st' := T36 c t ((mixL f g n i).set i (g i)) i l (0 : Nat)) ?_ (by rw [mixL_same _ _ _ rfl]; exact StLe.refl _ _)
    refine lp (fn := Tryz.f22) (fun x : Nat × Str => x.1 ≤ l.length ∧ valAt (g i) l t = valAt x.2 (l.drop x.1) t) (fun x => T36 c t ((mixL f g n i).set i x.2) i l x.1) (fun x => l.length - x.1) [1, 2, 5, 6, 13, 14, 21, 22, 23] (by kernel_rfl)
      (fun x hx => of_eq (n36b c t _ i l x.1 _ _ _) ?_) (0, g i) ⟨Nat.zero_le _, rfl⟩
    obtain ⟨k, u⟩ := x
    obtain ⟨hk, he⟩ := hx
    simp only at hk he ⊢
    have hes : ((mixL f g n i).set i u).length = n := by rw [List.length_set, mixL_len]
    refine cond_intro (fun hlt2 => ?_) fun hge => ?_
    · have hlt2 := ltI hlt2
      rw [add1 hlt2 hll, Int.toNat_natCast, Int.toNat_natCast]
      rw [drop_cons _ _ hlt2, valAt_cons] at he
      generalize l.getD k default = x at he ⊢
      refine ⟨⟨by omega, by omega⟩, trivial, cond_intro (fun h => ⟨⟨upd_same _ _ _, by omega, by rw [hes]; omega⟩, upd_same _ _ _, Nx.of (k + 1, x.val) ⟨hlt2, ?_⟩ (by simp only; omega) ?_⟩) fun h => Nx.mk (k + 1, u) ⟨hlt2, ?_⟩ (by simp only; omega)⟩
      · rw [h] at he; exact he
      · refine (hVec_set (x := x.val) (by rw [hes]; exact hlt)).trans ?_
        unfold T36
        rw [List.set_set, List.length_set, List.length_set]
        exact StLe.refl _ _
      · rw [h] at he; exact he
    · have := geI hge
      rw [List.drop_of_length_le this] at he
      have hu : u = f i := by rw [hfi, he]; rfl
      rw [add1 hlt hn]
      refine Nx.of (i + 1) hlt (by omega) ?_
      unfold S36
      rw [mixL_set _ _ _ hu]
      exact StLe.refl _ _
  · have := geI hge
    rw [mixL_len] at this
    have hin : i = n := by omega
    subst hin
    rw [mixL_all]
    exact ⟨_, retVec⟩

end Go.Proofs.YtmlhaikblfjghaaGreatDoor.S1
/- Seat 1: equal chunks; small chunks. -/
namespace Go.Proofs.YtmlhaikblfjghaaGreatDoor.S1
open Go Go.Ab Go.Proofs
theorem F28 : OkF 28 Tryz.f28 := ⟨by kernel_rfl, by kernel_rfl, by kernel_rfl⟩
def lv28 : List (List Nat × List Nat) := [([1, 1, 0, 1, 0], [0, 1, 5])]
noncomputable def nSaTs  : List Nat → Nat → Option Ans := scrAt []
theorem nSaT [Lay] (a : List (Str)) (K : D → Prop) : runS (En Tryz.f28) (fi Tryz.f28 K) (nSaTs ) lv28 200 [.code []] ⟨argSlots 0 [L a 1 (.str), L a 1 (.str)], .empty⟩ =
  (a.length ≤ lenM → a.length ≤ lenM → bif (↑a.length : Int) != (↑a.length : Int) then K (B false) else At (En Tryz.f28) (fi Tryz.f28 K) [It.code [1, 1, 0, 1, 0], It.blk 0, It.code [1, 1, 1]] { sl := [(0, L a 1 .str), (1, L a 1 .str), (5, I 0)], h := Heap.empty : St }) := by kernel_rfl
def SSaT (a : List (Str)) (i : Int) : St := ⟨[(0, L a 1 (.str)), (1, L a 1 (.str)), (5, I i)], .empty⟩
noncomputable def nSaTas  : List Nat → Nat → Option Ans := scrAt []
theorem nSaTa [Lay] (a : List (Str)) (i : Int) (J : St → Prop) (K : D → Prop) : runS (En Tryz.f28) (fi Tryz.f28 K) (nSaTas ) lv28 200 [.code [1, 1, 0, 1, 0, 0], stp [0, 1, 5] J, .blk 0, .code [1, 1, 1]] (SSaT a i) =
  (a.length ≤ lenM → bif decide (i < (↑a.length : Int)) then (0 ≤ i ∧ i < (↑a.length : Int)) ∧ (0 ≤ i ∧ i < (↑a.length : Int)) ∧ bif !a.getD i.toNat default == a.getD i.toNat default then K (B false) else J { sl := [(0, L a 1 .str), (1, L a 1 .str), (5, I (addI .i64 i 1))], h := Heap.empty : St } else K (B true)) := by kernel_rfl
theorem c28 [Lay] (a : List (Str)) : Pure PP 28 [L a 1 (.str), L a 1 (.str)] (B true) := by
  refine pu F28 (by kernel_rfl) (of_eq (nSaT a _) fun _ _ => cond_intro (fun h => by simp at h) fun h => ?_)
  refine lp (fn := Tryz.f28) (fun i : Nat => i ≤ a.length) (fun i => SSaT a i) (fun i => a.length - i) [0, 1, 5] (by kernel_rfl) (fun i hi => of_eq (nSaTa a i _ _) fun hl => cond_intro (fun hlt => ?_) fun hge => ?_) 0 (Nat.zero_le _)
  · have hlt := ltI hlt
    rw [add1 hlt hl]
    refine ⟨⟨by omega, by omega⟩, ⟨by omega, by omega⟩, cond_intro (fun h => by simp at h) fun h => Nx.mk (i + 1) (by omega) (by omega)⟩
  · exact Wk.refl _
theorem F38 : OkF 38 Tryz.f38 := ⟨by kernel_rfl, by kernel_rfl, by kernel_rfl⟩
def lv38 : List (List Nat × List Nat) := [([1, 1, 0, 1, 0], [0, 1, 5])]
noncomputable def nSaCs  : List Nat → Nat → Option Ans := scrAt []
theorem nSaC [Lay] (a : List (Cg)) (K : D → Prop) : runS (En Tryz.f38) (fi Tryz.f38 K) (nSaCs ) lv38 200 [.code []] ⟨argSlots 0 [L a 2 (Cg.d), L a 2 (Cg.d)], .empty⟩ =
  (a.length ≤ lenM → a.length ≤ lenM → bif (↑a.length : Int) != (↑a.length : Int) then K (B false) else At (En Tryz.f38) (fi Tryz.f38 K) [It.code [1, 1, 0, 1, 0], It.blk 0, It.code [1, 1, 1]] { sl := [(0, L a 2 Cg.d), (1, L a 2 Cg.d), (5, I 0)], h := Heap.empty : St }) := by kernel_rfl
def SSaC (a : List (Cg)) (i : Int) : St := ⟨[(0, L a 2 (Cg.d)), (1, L a 2 (Cg.d)), (5, I i)], .empty⟩
noncomputable def nSaCas  : List Nat → Nat → Option Ans := scrAt []
theorem nSaCa [Lay] (a : List (Cg)) (i : Int) (J : St → Prop) (K : D → Prop) : runS (En Tryz.f38) (fi Tryz.f38 K) (nSaCas ) lv38 200 [.code [1, 1, 0, 1, 0, 0], stp [0, 1, 5] J, .blk 0, .code [1, 1, 1]] (SSaC a i) =
  (a.length ≤ lenM → bif decide (i < (↑a.length : Int)) then (0 ≤ i ∧ i < (↑a.length : Int)) ∧ (0 ≤ i ∧ i < (↑a.length : Int)) ∧ bif !((a.getD i.toNat default).time == (a.getD i.toNat default).time && (a.getD i.toNat default).val == (a.getD i.toNat default).val) then K (B false) else J { sl := [(0, L a 2 Cg.d), (1, L a 2 Cg.d), (5, I (addI .i64 i 1))], h := Heap.empty : St } else K (B true)) := by kernel_rfl
theorem c38 [Lay] (a : List (Cg)) : Pure PP 38 [L a 2 (Cg.d), L a 2 (Cg.d)] (B true) := by
  refine pu F38 (by kernel_rfl) (of_eq (nSaC a _) fun _ _ => cond_intro (fun h => by simp at h) fun h => ?_)
  refine lp (fn := Tryz.f38) (fun i : Nat => i ≤ a.length) (fun i => SSaC a i) (fun i => a.length - i) [0, 1, 5] (by kernel_rfl) (fun i hi => of_eq (nSaCa a i _ _) fun hl => cond_intro (fun hlt => ?_) fun hge => ?_) 0 (Nat.zero_le _)
  · have hlt := ltI hlt
    rw [add1 hlt hl]
    refine ⟨⟨by omega, by omega⟩, ⟨by omega, by omega⟩, cond_intro (fun h => by simp at h) fun h => Nx.mk (i + 1) (by omega) (by omega)⟩
  · exact Wk.refl _
theorem F29 : OkF 29 Tryz.f29 := ⟨by kernel_rfl, by kernel_rfl, by kernel_rfl⟩
def lv29 : List (List Nat × List Nat) := [([1, 1, 0, 1, 0], [0, 1, 5])]
noncomputable def nSaAs  : List Nat → Nat → Option Ans := scrAt []
theorem nSaA [Lay] (a : List (List Cg)) (K : D → Prop) : runS (En Tryz.f29) (fi Tryz.f29 K) (nSaAs ) lv29 200 [.code []] ⟨argSlots 0 [L a 1 (fun l => L l 2 Cg.d), L a 1 (fun l => L l 2 Cg.d)], .empty⟩ =
  (a.length ≤ lenM → a.length ≤ lenM → bif (↑a.length : Int) != (↑a.length : Int) then K (B false) else At (En Tryz.f29) (fi Tryz.f29 K) [It.code [1, 1, 0, 1, 0], It.blk 0, It.code [1, 1, 1]] { sl := [(0, L a 1 fun l => L l 2 Cg.d), (1, L a 1 fun l => L l 2 Cg.d), (5, I 0)], h := Heap.empty : St }) := by kernel_rfl
def SSaA (a : List (List Cg)) (i : Int) : St := ⟨[(0, L a 1 (fun l => L l 2 Cg.d)), (1, L a 1 (fun l => L l 2 Cg.d)), (5, I i)], .empty⟩
noncomputable def nSaAas (a : List (List Cg)) (i : Int) : List Nat → Nat → Option Ans := scrAt [([1, 1, 0, 1, 0, 0, 1, 0, 0, 0], 8, Ans.pure [L (a.getD i.toNat default) 2 Cg.d, L (a.getD i.toNat default) 2 Cg.d] (B true))]
theorem nSaAa [Lay] (a : List (List Cg)) (i : Int) (J : St → Prop) (K : D → Prop) : runS (En Tryz.f29) (fi Tryz.f29 K) (nSaAas a i) lv29 200 [.code [1, 1, 0, 1, 0, 0], stp [0, 1, 5] J, .blk 0, .code [1, 1, 1]] (SSaA a i) =
  (a.length ≤ lenM → bif decide (i < (↑a.length : Int)) then (0 ≤ i ∧ i < (↑a.length : Int)) ∧ (0 ≤ i ∧ i < (↑a.length : Int)) ∧ PureW PP 38 [L (a.getD i.toNat default) 2 Cg.d, L (a.getD i.toNat default) 2 Cg.d] [L (a.getD i.toNat default) 2 Cg.d, L (a.getD i.toNat default) 2 Cg.d] (B true) ∧ J { sl := [(0, L a 1 fun l => L l 2 Cg.d), (1, L a 1 fun l => L l 2 Cg.d), (5, I (addI .i64 i 1))], h := Heap.empty : St } else K (B true)) := by kernel_rfl
theorem c29 [Lay] (a : List (List Cg)) : Pure PP 29 [L a 1 (fun l => L l 2 Cg.d), L a 1 (fun l => L l 2 Cg.d)] (B true) := by
  refine pu F29 (by kernel_rfl) (of_eq (nSaA a _) fun _ _ => cond_intro (fun h => by simp at h) fun h => ?_)
  refine lp (fn := Tryz.f29) (fun i : Nat => i ≤ a.length) (fun i => SSaA a i) (fun i => a.length - i) [0, 1, 5] (by kernel_rfl) (fun i hi => of_eq (nSaAa a i _ _) fun hl => cond_intro (fun hlt => ?_) fun hge => ?_) 0 (Nat.zero_le _)
  · have hlt := ltI hlt
    rw [add1 hlt hl]
    refine ⟨⟨by omega, by omega⟩, ⟨by omega, by omega⟩, PureW.mk (c38 _), Nx.mk (i + 1) (by omega) (by omega)⟩
  · exact Wk.refl _
theorem F30 : OkF 30 Tryz.f30 := ⟨by kernel_rfl, by kernel_rfl, by kernel_rfl⟩
def lv30 : List (List Nat × List Nat) := [([1, 1, 0, 1, 0], [0, 1, 5])]
noncomputable def nSaGs  : List Nat → Nat → Option Ans := scrAt []
theorem nSaG [Lay] (a : List (Gp)) (K : D → Prop) : runS (En Tryz.f30) (fi Tryz.f30 K) (nSaGs ) lv30 200 [.code []] ⟨argSlots 0 [L a 2 (Gp.d), L a 2 (Gp.d)], .empty⟩ =
  (a.length ≤ lenM → a.length ≤ lenM → bif (↑a.length : Int) != (↑a.length : Int) then K (B false) else At (En Tryz.f30) (fi Tryz.f30 K) [It.code [1, 1, 0, 1, 0], It.blk 0, It.code [1, 1, 1]] { sl := [(0, L a 2 Gp.d), (1, L a 2 Gp.d), (5, I 0)], h := Heap.empty : St }) := by kernel_rfl
def SSaG (a : List (Gp)) (i : Int) : St := ⟨[(0, L a 2 (Gp.d)), (1, L a 2 (Gp.d)), (5, I i)], .empty⟩
noncomputable def nSaGas  : List Nat → Nat → Option Ans := scrAt []
theorem nSaGa [Lay] (a : List (Gp)) (i : Int) (J : St → Prop) (K : D → Prop) : runS (En Tryz.f30) (fi Tryz.f30 K) (nSaGas ) lv30 200 [.code [1, 1, 0, 1, 0, 0], stp [0, 1, 5] J, .blk 0, .code [1, 1, 1]] (SSaG a i) =
  (a.length ≤ lenM → bif decide (i < (↑a.length : Int)) then (0 ≤ i ∧ i < (↑a.length : Int)) ∧ (0 ≤ i ∧ i < (↑a.length : Int)) ∧ bif !((a.getD i.toNat default).frm == (a.getD i.toNat default).frm && (a.getD i.toNat default).to == (a.getD i.toNat default).to) then K (B false) else J { sl := [(0, L a 2 Gp.d), (1, L a 2 Gp.d), (5, I (addI .i64 i 1))], h := Heap.empty : St } else K (B true)) := by kernel_rfl
theorem c30 [Lay] (a : List (Gp)) : Pure PP 30 [L a 2 (Gp.d), L a 2 (Gp.d)] (B true) := by
  refine pu F30 (by kernel_rfl) (of_eq (nSaG a _) fun _ _ => cond_intro (fun h => by simp at h) fun h => ?_)
  refine lp (fn := Tryz.f30) (fun i : Nat => i ≤ a.length) (fun i => SSaG a i) (fun i => a.length - i) [0, 1, 5] (by kernel_rfl) (fun i hi => of_eq (nSaGa a i _ _) fun hl => cond_intro (fun hlt => ?_) fun hge => ?_) 0 (Nat.zero_le _)
  · have hlt := ltI hlt
    rw [add1 hlt hl]
    refine ⟨⟨by omega, by omega⟩, ⟨by omega, by omega⟩, cond_intro (fun h => by simp at h) fun h => Nx.mk (i + 1) (by omega) (by omega)⟩
  · exact Wk.refl _
theorem F9 : OkF 9 Tryz.f9 := ⟨by kernel_rfl, by kernel_rfl, by kernel_rfl⟩
def lv9 : List (List Nat × List Nat) := []
noncomputable def n22s (a : Chk) : List Nat → Nat → Option Ans := scrAt [([1, 0], 17, Ans.pure [L a.vals 1 .str, L a.vals 1 .str] (B true)), ([1, 0], 24, Ans.pure [L a.chg 1 fun l => L l 2 Cg.d, L a.chg 1 fun l => L l 2 Cg.d] (B true)), ([1, 0], 31, Ans.pure [L a.gaps 2 Gp.d, L a.gaps 2 Gp.d] (B true))]
theorem n22 [Lay] (a : Chk) (K : D → Prop) : runS (En Tryz.f9) (fi Tryz.f9 K) (n22s a) lv9 200 [.code []] ⟨argSlots 0 [a.d, a.d], .empty⟩ =
  (((bif a.frm == a.frm then a.to == a.to else false) = true → PureW PP 28 [L a.vals 1 .str, L a.vals 1 .str] [L a.vals 1 .str, L a.vals 1 .str] (B true)) ∧ ((bif bif a.frm == a.frm then a.to == a.to else false then true else false) = true → PureW PP 29 [L a.chg 1 fun l => L l 2 Cg.d, L a.chg 1 fun l => L l 2 Cg.d] [L a.chg 1 fun l => L l 2 Cg.d, L a.chg 1 fun l => L l 2 Cg.d] (B true)) ∧ ((bif bif bif a.frm == a.frm then a.to == a.to else false then true else false then true else false) = true → PureW PP 30 [L a.gaps 2 Gp.d, L a.gaps 2 Gp.d] [L a.gaps 2 Gp.d, L a.gaps 2 Gp.d] (B true)) ∧ K (B (bif bif bif bif a.frm == a.frm then a.to == a.to else false then true else false then true else false then true else false))) := by kernel_rfl
theorem c9 [Lay] (a : Chk) : Pure PP 9 [a.d, a.d] (B true) := pu F9 (by kernel_rfl) (of_eq (n22 a _) ⟨fun _ => PureW.mk (c28 _), fun _ => PureW.mk (c29 _), fun _ => PureW.mk (c30 _), Wk.of_eq (by simp)⟩)
theorem F11 : OkF 11 Tryz.f11 := ⟨by kernel_rfl, by kernel_rfl, by kernel_rfl⟩
def lv11 : List (List Nat × List Nat) := [([1, 0, 1, 0], [0, 1, 5])]
noncomputable def n54s  : List Nat → Nat → Option Ans := scrAt []
theorem n54 [Lay] (l : List Cg) (m : Int) (K : D → Prop) : runS (En Tryz.f11) (fi Tryz.f11 K) (n54s ) lv11 200 [.code []] ⟨argSlots 0 [L l 2 Cg.d, I m], .empty⟩ =
  (At (En Tryz.f11) (fi Tryz.f11 K) [It.code [1, 0, 1, 0], It.blk 0, It.code [1, 1]] { sl := [(0, L l 2 Cg.d), (1, I m), (5, I 0)], h := Heap.empty : St }) := by kernel_rfl
def S54 (l : List Cg) (m : Int) (i : Int) : St := ⟨[(0, L l 2 Cg.d), (1, I m), (5, I i)], .empty⟩
noncomputable def n54as  : List Nat → Nat → Option Ans := scrAt []
theorem n54a [Lay] (l : List Cg) (m : Int) (i : Int) (J : St → Prop) (K : D → Prop) : runS (En Tryz.f11) (fi Tryz.f11 K) (n54as ) lv11 200 [.code [1, 0, 1, 0, 0], stp [0, 1, 5] J, .blk 0, .code [1, 1]] (S54 l m i) =
  (l.length ≤ lenM → bif decide (i < (↑l.length : Int)) then (0 ≤ i ∧ i < (↑l.length : Int)) ∧ (List.length (l.getD i.toNat default).val ≤ strM → bif decide ((↑(List.length (l.getD i.toNat default).val) : Int) > 150) then K (B false) else J { sl := [(0, L l 2 Cg.d), (1, I m), (5, I (addI .i64 i 1))], h := Heap.empty : St }) else l.length ≤ lenM → K (B (decide ((↑l.length : Int) ≤ m)))) := by kernel_rfl
def few1 (l : List Cg) (m : Int) : Bool := (l.all fun x => decide (x.val.length ≤ 150)) && decide ((l.length : Int) ≤ m)
theorem c11 [Lay] (l : List Cg) (m : Int) : Pure PP 11 [L l 2 Cg.d, I m] (B (few1 l m)) := by
  refine pu F11 (by kernel_rfl) (of_eq (n54 l m _) ?_)
  refine lp (fn := Tryz.f11) (fun i : Nat => i ≤ l.length ∧ few1 l m = ((l.drop i).all (fun x => decide (x.val.length ≤ 150)) && decide ((l.length : Int) ≤ m))) (fun i => S54 l m i) (fun i => l.length - i) [0, 1, 5] (by kernel_rfl) (fun i hi => of_eq (n54a l m i _ _) fun hl => cond_intro (fun hlt => ?_) fun hge _ => ?_) 0 ⟨Nat.zero_le _, rfl⟩
  · have hlt := ltI hlt
    obtain ⟨hi, he⟩ := hi
    rw [add1 hlt hl, Int.toNat_natCast]
    rw [drop_cons _ _ hlt, List.all_cons] at he
    generalize l.getD i default = x at he ⊢
    refine ⟨⟨by omega, by omega⟩, fun _ => cond_intro (fun h => ?_) fun h => Nx.mk (i + 1) ⟨by omega, ?_⟩ (by omega)⟩
    · have : decide (x.val.length ≤ 150) = false := by simp at h; simp; omega
      rw [he, this]; exact Wk.refl _
    · have : decide (x.val.length ≤ 150) = true := by simp at h; simp; omega
      rw [he, this]; rfl
  · have := geI hge
    rw [hi.2, List.drop_of_length_le this]
    exact Wk.refl _
theorem F5 : OkF 5 Tryz.f5 := ⟨by kernel_rfl, by kernel_rfl, by kernel_rfl⟩
def lv5 : List (List Nat × List Nat) := [([1, 0, 1, 0], [0, 3, 5]), ([1, 1, 0, 1, 0], [0, 3, 6])]
structure Sto where (kind wid : Int) deriving Inhabited, DecidableEq
def Sto.d (x : Sto) : D := .agg [I x.kind, I x.wid]
instance {x : Sto} : DD x.d := inferInstanceAs (DD (.agg _))
noncomputable def n33s  : List Nat → Nat → Option Ans := scrAt []
theorem n33 [Lay] (q : List Sto) (c : Chk) (K : D → Prop) : runS (En Tryz.f5) (fi Tryz.f5 K) (n33s ) lv5 200 [.code []] ⟨argSlots 0 [L q 2 Sto.d, c.d], .empty⟩ =
  (At (En Tryz.f5) (fi Tryz.f5 K) [It.code [1, 0, 1, 0], It.blk 0, It.code [1, 1]] { sl := [(0, L q 2 Sto.d), (3, .own [I c.frm, I c.to, L c.vals 1 .str, L c.chg 1 fun l => L l 2 Cg.d, L c.gaps 2 Gp.d]), (5, I 0)], h := Heap.empty : St }) := by kernel_rfl

def S33 (q : List Sto) (c : Chk) (i : Int) : St := ⟨[(0, L q 2 Sto.d), (3, .own [I c.frm, I c.to, L c.vals 1 .str, L c.chg 1 (fun l => L l 2 Cg.d), L c.gaps 2 Gp.d]), (5, I i)], .empty⟩
def T33 (q : List Sto) (c : Chk) (i : Int) : St := ⟨[(0, L q 2 Sto.d), (3, .own [I c.frm, I c.to, L c.vals 1 .str, L c.chg 1 (fun l => L l 2 Cg.d), L c.gaps 2 Gp.d]), (6, I i)], .empty⟩
noncomputable def n33as  : List Nat → Nat → Option Ans := scrAt []
theorem n33a [Lay] (q : List Sto) (c : Chk) (i : Int) (J : St → Prop) (K : D → Prop) : runS (En Tryz.f5) (fi Tryz.f5 K) (n33as ) lv5 200 [.code [1, 0, 1, 0, 0], stp [0, 3, 5] J, .blk 0, .code [1, 1]] (S33 q c i) =
  (c.vals.length ≤ lenM → bif decide (i < (↑c.vals.length : Int)) then (0 ≤ i ∧ i < (↑c.vals.length : Int)) ∧ (List.length (c.vals.getD i.toNat default) ≤ strM → bif decide ((↑(List.length (c.vals.getD i.toNat default)) : Int) > 150) then K (B false) else J { sl := [(0, L q 2 Sto.d), (3, .own [I c.frm, I c.to, L c.vals 1 .str, L c.chg 1 fun l => L l 2 Cg.d, L c.gaps 2 Gp.d]), (5, I (addI .i64 i 1))], h := Heap.empty : St }) else At (En Tryz.f5) (fi Tryz.f5 K) [It.code [1, 1, 0, 1, 0], It.blk 2, It.code [1, 1, 1]] { sl := [(0, L q 2 Sto.d), (3, .own [I c.frm, I c.to, L c.vals 1 .str, L c.chg 1 fun l => L l 2 Cg.d, L c.gaps 2 Gp.d]), (6, I 0)], h := Heap.empty : St }) := by kernel_rfl
noncomputable def n33bs (c : Chk) (i : Int) : List Nat → Nat → Option Ans := scrAt [([1, 1, 0, 1, 0, 0, 1, 0, 0, 0], 5, Ans.pure [L (c.chg.getD i.toNat default) 2 Cg.d, I 30] (B (few1 (c.chg.getD i.toNat default) 30)))]
theorem n33b [Lay] (q : List Sto) (c : Chk) (i : Int) (J : St → Prop) (K : D → Prop) : runS (En Tryz.f5) (fi Tryz.f5 K) (n33bs c i) lv5 200 [.code [1, 1, 0, 1, 0, 0], stp [0, 3, 6] J, .blk 2, .code [1, 1, 1]] (T33 q c i) =
  (c.chg.length ≤ lenM → bif decide (i < (↑c.chg.length : Int)) then (0 ≤ i ∧ i < (↑c.chg.length : Int)) ∧ PureW PP 11 [L (c.chg.getD i.toNat default) 2 Cg.d, I 30] [L (c.chg.getD i.toNat default) 2 Cg.d, I 30] (B (few1 (c.chg.getD i.toNat default) 30)) ∧ bif !few1 (c.chg.getD i.toNat default) 30 then K (B false) else J { sl := [(0, L q 2 Sto.d), (3, .own [I c.frm, I c.to, L c.vals 1 .str, L c.chg 1 fun l => L l 2 Cg.d, L c.gaps 2 Gp.d]), (6, I (addI .i64 i 1))], h := Heap.empty : St } else q.length ≤ lenM → (decide ((↑q.length : Int) ≤ 8) = true → c.vals.length ≤ lenM) → ((bif decide ((↑q.length : Int) ≤ 8) then decide ((↑c.vals.length : Int) ≤ 10) else false) = true → c.chg.length ≤ lenM) → ((bif bif decide ((↑q.length : Int) ≤ 8) then decide ((↑c.vals.length : Int) ≤ 10) else false then decide ((↑c.chg.length : Int) ≤ 10) else false) = true → c.gaps.length ≤ lenM) → K (B (bif bif bif decide ((↑q.length : Int) ≤ 8) then decide ((↑c.vals.length : Int) ≤ 10) else false then decide ((↑c.chg.length : Int) ≤ 10) else false then decide ((↑c.gaps.length : Int) ≤ 20) else false))) := by kernel_rfl
def fewB (q : List Sto) (c : Chk) : Bool := (c.vals.all fun x => decide (x.length ≤ 150)) && ((c.chg.all fun l => few1 l 30) && (bif bif bif decide ((q.length : Int) ≤ 8) then decide ((c.vals.length : Int) ≤ 10) else false then decide ((c.chg.length : Int) ≤ 10) else false then decide ((c.gaps.length : Int) ≤ 20) else false))
theorem c5 [Lay] (q : List Sto) (c : Chk) : Pure PP 5 [L q 2 Sto.d, c.d] (B (fewB q c)) := by
  refine pu F5 (by kernel_rfl) (of_eq (n33 q c _) ?_)
  have h0 : fewB q c = ((c.vals.all fun x => decide (x.length ≤ 150)) && ((c.chg.all fun l => few1 l 30) && (bif bif bif decide ((q.length : Int) ≤ 8) then decide ((c.vals.length : Int) ≤ 10) else false then decide ((c.chg.length : Int) ≤ 10) else false then decide ((c.gaps.length : Int) ≤ 20) else false))) := rfl
  rw [h0]
  generalize hT : (bif bif bif decide ((q.length : Int) ≤ 8) then decide ((c.vals.length : Int) ≤ 10) else false then decide ((c.chg.length : Int) ≤ 10) else false then decide ((c.gaps.length : Int) ≤ 20) else false) = T
  refine lp (fn := Tryz.f5) (fun i : Nat => i ≤ c.vals.length ∧ (c.vals.all fun x => decide (x.length ≤ 150)) = ((c.vals.drop i).all fun x => decide (x.length ≤ 150))) (fun i => S33 q c i) (fun i => c.vals.length - i) [0, 3, 5] (by kernel_rfl) (fun i hi => of_eq (n33a q c i _ _) fun hl => cond_intro (fun hlt => ?_) fun hge => ?_) 0 ⟨Nat.zero_le _, rfl⟩
  · have hlt := ltI hlt
    obtain ⟨hi, he⟩ := hi
    rw [add1 hlt hl, Int.toNat_natCast]
    rw [drop_cons _ _ hlt, List.all_cons] at he
    generalize c.vals.getD i default = x at he ⊢
    refine ⟨⟨by omega, by omega⟩, fun _ => cond_intro (fun h => ?_) fun h => Nx.mk (i + 1) ⟨by omega, ?_⟩ (by omega)⟩
    · have : decide (x.length ≤ 150) = false := by simp at h; simp; omega
      rw [he, this]; exact Wk.refl _
    · have : decide (x.length ≤ 150) = true := by simp at h; simp; omega
      rw [he, this]; rfl
  · have := geI hge
    rw [hi.2, List.drop_of_length_le this]
    simp only [List.all_nil, Bool.true_and]
    refine lp (fn := Tryz.f5) (fun i : Nat => i ≤ c.chg.length ∧ (c.chg.all fun l => few1 l 30) = ((c.chg.drop i).all fun l => few1 l 30)) (fun i => T33 q c i) (fun i => c.chg.length - i) [0, 3, 6] (by kernel_rfl) (fun i hi => of_eq (n33b q c i _ _) fun hl => cond_intro (fun hlt => ?_) fun hge _ _ _ _ => ?_) 0 ⟨Nat.zero_le _, rfl⟩
    · have hlt := ltI hlt
      obtain ⟨hi, he⟩ := hi
      rw [add1 hlt hl, Int.toNat_natCast]
      rw [drop_cons _ _ hlt, List.all_cons] at he
      generalize c.chg.getD i default = x at he ⊢
      refine ⟨⟨by omega, by omega⟩, PureW.mk (c11 _ _), cond_intro (fun h => ?_) fun h => Nx.mk (i + 1) ⟨by omega, ?_⟩ (by omega)⟩
      · have : few1 x 30 = false := by simpa using h
        rw [he, this]; exact Wk.refl _
      · have : few1 x 30 = true := by simpa using h
        rw [he, this]; rfl
    · have := geI hge
      rw [hi.2, List.drop_of_length_le this, ← hT]
      exact Wk.refl _
end Go.Proofs.YtmlhaikblfjghaaGreatDoor.S1
/- Seat 1: the parts of a chunk. -/
namespace Go.Proofs.YtmlhaikblfjghaaGreatDoor.S1
open Go Go.Ab Go.Proofs
instance {ds : List D} [h : DS ds] : DD (.ep ds) := ⟨h.p⟩
/-- The changes behind f, up to t. -/
def inB (f t : Int) (x : Cg) : Bool := bif decide (x.time > f) then decide (x.time ≤ t) else false
def cut (f t : Int) (l : List Cg) : List Cg := l.filter (inB f t)
theorem cut_snoc (f t : Int) (l : List Cg) (x : Cg) : cut f t (l ++ [x]) = cut f t l ++ if inB f t x then [x] else [] := by
  simp only [cut, List.filter_append, List.filter_cons, List.filter_nil]
theorem cut_len (f t : Int) (l : List Cg) : (cut f t l).length ≤ l.length := List.length_filter_le _ _
abbrev z5 : List D := [I 0, I 0, .list 0 0 (fun _ => .junk) .full, .list 0 0 (fun _ => .junk) .full, .list 0 0 (fun _ => .junk) .full]
theorem F20 : OkF 20 Tryz.f20 := ⟨by kernel_rfl, by kernel_rfl, by kernel_rfl⟩
def lv20 : List (List Nat × List Nat) := [([1, 1, 0, 1, 0], [0, 1, 7, 8, 19, 20, 21]), ([1, 1, 0, 1, 0, 0, 1, 1, 0, 0, 1, 1, 0, 1, 0], [0, 1, 7, 8, 11, 19, 20, 21, 25, 26, 27])]
noncomputable def n34s  : List Nat → Nat → Option Ans := scrAt []
theorem n34 [Lay] (c : Chk) (f t : Int) (vs : List Str) (K : D → Prop) : runS (En Tryz.f20) (fi Tryz.f20 K) (n34s ) lv20 200 [.code []] ⟨argSlots 0 [I f, I t, L vs 1 .str, .ep [I c.frm, I c.to, L c.vals 1 .str, L c.chg 1 (fun l => L l 2 Cg.d), L c.gaps 2 Gp.d]], .empty⟩ =
  (True ∧ (c.chg.length ≤ lenM → At (En Tryz.f20) (fi Tryz.f20 K) [It.code [1, 1, 0, 1, 0], It.blk 0, It.code [1, 1, 1]] { sl := [(0, I f), (1, I t), (7, .own [I 0, I 0, .list 0 0 (fun _ => D.junk) .full, .list 0 0 (fun _ => D.junk) .full, .list 0 0 (fun _ => D.junk) .full]), (8, .own [I f, I t, L vs 1 .str, .list 0 0 (fun _ => D.junk) .full, .list 0 0 (fun _ => D.junk) .full]), (19, L c.chg 1 fun x => L x 2 Cg.d), (20, I (↑c.chg.length : Int)), (21, I 0)], h := Heap.empty : St })) := by kernel_rfl
def S34 (f t : Int) (vs : List Str) (q : List (List Cg)) (out : List (List Cg)) (i : Int) (N : Nat) : St := ⟨[(0, I f), (1, I t), (7, .own z5), (8, .own [I f, I t, L vs 1 .str, LT out 1 (fun l => L l 2 Cg.d) 0, .list 0 0 (fun _ => .junk) .full]), (19, L q 1 (fun l => L l 2 Cg.d)), (20, I q.length), (21, I i)], hN out.length N⟩
noncomputable def n34as  : List Nat → Nat → Option Ans := scrAt []
theorem n34a [Lay] (f t : Int) (vs : List Str) (q : List (List Cg)) (out : List (List Cg)) (i : Int) (N : Nat) (J : St → Prop) (K : D → Prop) : runS (En Tryz.f20) (fi Tryz.f20 K) (n34as ) lv20 200 [.code [1, 1, 0, 1, 0, 0], stp [0, 1, 7, 8, 19, 20, 21] J, .blk 0, .code [1, 1, 1]] (S34 f t vs q out i N) =
  (bif decide (i < (↑q.length : Int)) then (0 ≤ i ∧ i < (↑q.length : Int)) ∧ ((q.getD i.toNat default).length ≤ lenM → At (En Tryz.f20) (fi Tryz.f20 K) [It.code [1, 1, 0, 1, 0, 0, 1, 1, 0, 0, 1, 1, 0, 1, 0], It.blk 2, It.code [1, 1, 0, 1, 0, 0, 1, 1, 0, 0, 1, 1, 1], It.blk 1, It.code [1, 1, 0, 1, 0, 0, 1, 1, 1], stp [0, 1, 7, 8, 19, 20, 21] J, It.blk 0, It.code [1, 1, 1]] { sl := [(0, I f), (1, I t), (7, .own [I 0, I 0, .list 0 0 (fun _ => D.junk) .full, .list 0 0 (fun _ => D.junk) .full, .list 0 0 (fun _ => D.junk) .full]), (8, .own [I f, I t, L vs 1 .str, .list out.length 1 (fun i => L (out.getD i default) 2 Cg.d) (.tok 0 1), .list 0 0 (fun _ => D.junk) .full]), (11, .list 0 0 (fun _ => D.junk) .full), (19, L q 1 fun l => L l 2 Cg.d), (20, I (↑q.length : Int)), (21, I i), (25, L (q.getD i.toNat default) 2 Cg.d), (26, I (↑(q.getD i.toNat default).length : Int)), (27, I 0)], h := { box := fun _ => none, nl := 0, hw := upd (fun _ => none) 0 (some out.length), nt := N, vw := fun _ => none : Heap } : St }) else True ∧ K (.agg [I f, I t, L vs 1 .str, .list out.length 1 (fun i => L (out.getD i default) 2 Cg.d) (.tok 0 1), .list 0 0 (fun _ => D.junk) .full])) := by kernel_rfl
def T34 (f t : Int) (vs : List Str) (q : List (List Cg)) (out : List (List Cg)) (i : Int) (N : Nat) (l o : List Cg) (k : Int) : St := ⟨[(0, I f), (1, I t), (7, .own z5), (8, .own [I f, I t, L vs 1 .str, LT out 1 (fun l => L l 2 Cg.d) 0, .list 0 0 (fun _ => .junk) .full]), (11, LT o 2 Cg.d N), (19, L q 1 (fun l => L l 2 Cg.d)), (20, I q.length), (21, I i), (25, L l 2 Cg.d), (26, I l.length), (27, I k)], hN2 out.length N o.length⟩
noncomputable def n34bs  : List Nat → Nat → Option Ans := scrAt []
theorem n34b [Lay] (f t : Int) (vs : List Str) (q : List (List Cg)) (out : List (List Cg)) (i : Int) (N : Nat) (l o : List Cg) (k : Int) (J J2 : St → Prop) (K : D → Prop) : runS (En Tryz.f20) (fi Tryz.f20 K) (n34bs ) lv20 200 [.code [1, 1, 0, 1, 0, 0, 1, 1, 0, 0, 1, 1, 0, 1, 0, 0], stp [0, 1, 7, 8, 11, 19, 20, 21, 25, 26, 27] J, .blk 2, .code [1, 1, 0, 1, 0, 0, 1, 1, 0, 0, 1, 1, 1], .blk 1, .code [1, 1, 0, 1, 0, 0, 1, 1, 1], stp [0, 1, 7, 8, 19, 20, 21] J2, .blk 0, .code [1, 1, 1]] (T34 f t vs q out i N l o k) =
  (bif decide (k < (↑l.length : Int)) then
  (0 ≤ k ∧ k < (↑l.length : Int)) ∧
    True ∧
      bif bif decide ((l.getD k.toNat default).time > f) then decide ((l.getD k.toNat default).time ≤ t) else false then (upd (upd (fun _ => none) 0 (some out.length)) N (some o.length) N = some o.length ∧ (o.length + 1) * 24 ≤ roomM) ∧ J { sl := [(0, I f), (1, I t), (7, .own [I 0, I 0, .list 0 0 (fun _ => D.junk) .full, .list 0 0 (fun _ => D.junk) .full, .list 0 0 (fun _ => D.junk) .full]), (8, .own [I f, I t, L vs 1 .str, .list out.length 1 (fun i => L (out.getD i default) 2 Cg.d) (.tok 0 1), .list 0 0 (fun _ => D.junk) .full]), (11, .list (o.length + 1) 2 (catG o.length (fun i => (o.getD i default).d) (litG [.agg [I (l.getD k.toNat default).time, .str (l.getD k.toNat default).val]])) (.tok N 2)), (19, L q 1 fun l => L l 2 Cg.d), (20, I (↑q.length : Int)), (21, I i), (25, L l 2 Cg.d), (26, I (↑l.length : Int)), (27, I (addI .i64 k 1))], h := { box := fun _ => none, nl := 0, hw := upd (upd (upd (fun _ => none) 0 (some out.length)) N (some o.length)) N (some (o.length + 1)), nt := N + 1, vw := fun _ => none : Heap } : St }
      else J { sl := [(0, I f), (1, I t), (7, .own [I 0, I 0, .list 0 0 (fun _ => D.junk) .full, .list 0 0 (fun _ => D.junk) .full, .list 0 0 (fun _ => D.junk) .full]), (8, .own [I f, I t, L vs 1 .str, .list out.length 1 (fun i => L (out.getD i default) 2 Cg.d) (.tok 0 1), .list 0 0 (fun _ => D.junk) .full]), (11, .list o.length 2 (fun i => (o.getD i default).d) (.tok N 2)), (19, L q 1 fun l => L l 2 Cg.d), (20, I (↑q.length : Int)), (21, I i), (25, L l 2 Cg.d), (26, I (↑l.length : Int)), (27, I (addI .i64 k 1))], h := { box := fun _ => none, nl := 0, hw := upd (upd (fun _ => none) 0 (some out.length)) N (some o.length), nt := N + 1, vw := fun _ => none : Heap } : St }
 else (upd (upd (fun _ => none) 0 (some out.length)) N (some o.length) 0 = some out.length ∧ (out.length + 1) * 24 ≤ roomM) ∧ True ∧ J2 { sl := [(0, I f), (1, I t), (7, .own [I 0, I 0, .list 0 0 (fun _ => D.junk) .full, .list 0 0 (fun _ => D.junk) .full, .list 0 0 (fun _ => D.junk) .full]), (8, .own [I f, I t, L vs 1 .str, .list (out.length + 1) 1 (catG out.length (fun i => L (out.getD i default) 2 Cg.d) (litG [.list o.length 2 (fun i => (o.getD i default).d) (.tok N 2)])) (.tok 0 1), .list 0 0 (fun _ => D.junk) .full]), (19, L q 1 fun l => L l 2 Cg.d), (20, I (↑q.length : Int)), (21, I (addI .i64 i 1))], h := { box := fun _ => none, nl := 0, hw := upd (upd (upd (fun _ => none) 0 (some out.length)) N (some o.length)) 0 (some (out.length + 1)), nt := N + 1, vw := fun _ => none : Heap } : St }) := by kernel_rfl
theorem ones_L {α : Type} [Inhabited α] {l : List α} {sz : Nat} {enc : α → D} : ones (L l sz enc) = true := rfl
theorem map_take {α β : Type} [Inhabited α] (g : α → β) (l : List α) (i : Nat) (h : i < l.length) : (l.take (i + 1)).map g = (l.take i).map g ++ [g (l.getD i default)] := by
  rw [take_snoc _ _ h, List.map_append]; rfl
def partD (c : Chk) (f t : Int) (vs : List Str) : D := .agg [I f, I t, L vs 1 .str, L (c.chg.map (cut f t)) 1 (fun l => L l 2 Cg.d), .list 0 0 (fun _ => .junk) .full]
instance {sz : Nat} {get : Nat → D} : DD (.list 0 sz get .full) := ⟨⟨fun i h => by omega, fun _ _ h => by cases h⟩⟩
instance {c : Chk} {f t : Int} {vs : List Str} : DD (partD c f t vs) := inferInstanceAs (DD (.agg _))
def SmallC (c : Chk) : Prop := c.chg.length ≤ 100000 ∧ c.vals.length ≤ 100000 ∧ c.gaps.length ≤ 100000 ∧ ∀ l ∈ c.chg, l.length ≤ 100000
theorem c20 [Lay] (c : Chk) (f t : Int) (vs : List Str) (hs : SmallC c) : Pure PP 20 [I f, I t, L vs 1 .str, .ep [I c.frm, I c.to, L c.vals 1 .str, L c.chg 1 (fun l => L l 2 Cg.d), L c.gaps 2 Gp.d]] (partD c f t vs) := by
  obtain ⟨hs1, _, _, hs2⟩ := hs
  refine pu (args := [I f, I t, L vs 1 .str, .ep [I c.frm, I c.to, L c.vals 1 .str, L c.chg 1 (fun l => L l 2 Cg.d), L c.gaps 2 Gp.d]]) F20 (by kernel_rfl) (of_eq (n34 c f t vs _) ⟨trivial, fun hq => ?_⟩)
  refine at_le (st' := S34 f t vs c.chg ((c.chg.take 0).map (cut f t)) (0 : Nat) 1) ?_ ((StLe.idleOwn _ none 8 3 1 (fun i => L (([] : List (List Cg)).getD i default) 2 Cg.d) rfl rfl).cast (by kernel_rfl))
  have hd : partD c f t vs = .agg [I f, I t, L vs 1 .str, L ((c.chg.take c.chg.length).map (cut f t)) 1 (fun l => L l 2 Cg.d), .list 0 0 (fun _ => .junk) .full] := by rw [List.take_length]; rfl
  rw [hd]
  generalize c.chg = q at hs1 hs2 hq ⊢
  refine lp (fn := Tryz.f20) (fun x : Nat × Nat => x.1 ≤ q.length ∧ 0 < x.2) (fun x => S34 f t vs q ((q.take x.1).map (cut f t)) x.1 x.2) (fun x => q.length - x.1) [0, 1, 7, 8, 19, 20, 21] (by kernel_rfl) (fun x hx => of_eq (n34a f t vs q _ x.1 x.2 _ _) ?_) (0, 1) ⟨Nat.zero_le _, by decide⟩
  obtain ⟨i, N⟩ := x
  obtain ⟨hi, hN0⟩ := hx
  simp only at hi hN0 ⊢
  refine cond_intro (fun hlt => ?_) fun hge => ?_
  · have hlt := ltI hlt
    have hmem := getD_mem hlt
    have hmt := map_take (cut f t) q i hlt
    have hol : ((q.take i).map (cut f t)).length = i := by simp; omega
    rw [Int.toNat_natCast]
    generalize (q.take i).map (cut f t) = out at hmt hol ⊢
    generalize q.getD i default = l at hmt hmem ⊢
    have hll := hs2 l hmem
    refine ⟨⟨by omega, by omega⟩, fun hlm => ?_⟩
    refine at_le (st' := T34 f t vs q out i N l (cut f t (l.take 0)) (0 : Nat)) ?_ ((StLe.idle _ none 11 2 (fun i => Cg.d (([] : List Cg).getD i default)) rfl).cast (by kernel_rfl))
    refine lp (fn := Tryz.f20) (fun k : Nat => k ≤ l.length) (fun k => T34 f t vs q out i N l (cut f t (l.take k)) k) (fun k => l.length - k) [0, 1, 7, 8, 11, 19, 20, 21, 25, 26, 27] (by kernel_rfl) (fun k hk => of_eq (n34b f t vs q out i N l _ k _ _ _) (cond_intro (fun hlt2 => ?_) fun hge2 => ?_)) 0 (Nat.zero_le _)
    · have hlt2 := ltI hlt2
      rw [add1 hlt2 hlm, Int.toNat_natCast]
      have hcs := cut_snoc f t (l.take k) (l.getD k default)
      rw [← take_snoc _ _ hlt2] at hcs
      have hcl := cut_len f t (l.take k)
      have hcl2 : (l.take k).length ≤ k := by simp; omega
      generalize l.getD k default = x at hcs ⊢
      refine ⟨⟨by omega, by omega⟩, trivial, cond_intro (fun h => ?_) fun h => ?_⟩
      · have h : inB f t x = true := h
        rw [h] at hcs
        refine ⟨⟨upd_same _ _ _, by unfold roomM; omega⟩, Nx.of (k + 1) (by omega) (by omega) ?_⟩
        unfold T34
        rw [hcs]
        exact (StLe.set 11 rfl (Wk.snoc (x := x)) rfl rfl).trans (StLe.heap (by simp [hN2, upd_upd]))
      · have h : inB f t x = false := h
        rw [h] at hcs
        refine Nx.of (k + 1) (by omega) (by omega) ?_
        rw [hcs]; simp only [Bool.false_eq_true, if_false, List.append_nil]; exact StLe.refl _ _
    · have := geI hge2
      rw [List.take_of_length_le this]
      rw [add1 hlt hq]
      refine ⟨⟨by rw [upd_other _ _ (by omega), upd_same], by unfold roomM; omega⟩, trivial, Nx.of (i + 1, N + 1) ⟨hlt, by simp only; omega⟩ (by simp only; omega) ?_⟩
      unfold S34
      rw [hmt]
      have hW := Wk.snocW (a := out) (x := cut f t l) (sz := 1) (t := 0) (enc := fun l => L l 2 Cg.d) (Wk.tokL (a := cut f t l) (sz := 2) (t := N) (enc := Cg.d)) ones_L
      refine (StLe.setOwn (of_decide_eq_true (by kernel_rfl)) 8 rfl (Wks.cons (Wk.refl _) (Wks.cons (Wk.refl _) (Wks.cons (Wk.refl _) (Wks.cons hW (Wks.refl _)))))).trans (StLe.heapLe ?_)
      unfold hN
      rw [List.length_append]
      exact hN_drop hN0 fun _ => rfl
  · have := geI hge
    have hii : i = q.length := by omega
    subst hii
    exact ⟨trivial, Wk.agg (Wks.cons (Wk.refl _) (Wks.cons (Wk.refl _) (Wks.cons (Wk.refl _) (Wks.cons (Wk.tokL (enc := fun l => L l 2 Cg.d)) (Wks.refl _)))))⟩
end Go.Proofs.YtmlhaikblfjghaaGreatDoor.S1
/- Seat 1: splitting. -/
namespace Go.Proofs.YtmlhaikblfjghaaGreatDoor.S1
open Go Go.Ab Go.Proofs
theorem F7 : OkF 7 Tryz.f7 := ⟨by kernel_rfl, by kernel_rfl, by kernel_rfl⟩
def lv7 : List (List Nat × List Nat) := [([1, 1, 1, 0], [1, 2, 4, 5]), ([1, 1, 1, 1, 1, 0, 1, 0], [1, 4, 5, 8, 9, 53, 54, 55])]
noncomputable def n20s  : List Nat → Nat → Option Ans := scrAt []
theorem n20 [Lay] (c : Chk) (t : Int) (K : D → Prop) : runS (En Tryz.f7) (fi Tryz.f7 K) (n20s ) lv7 200 [.code []] ⟨argSlots 0 [c.d, I t], .empty⟩ =
  (c.chg.length ≤ lenM → c.vals.length ≤ lenM → bif (↑c.chg.length : Int) != (↑c.vals.length : Int) then True ∧ True ∧ K (.tup [.agg [I 0, I 0, .list 0 0 (fun _ => D.junk) .full, .list 0 0 (fun _ => D.junk) .full, .list 0 0 (fun _ => D.junk) .full], .agg [I 0, I 0, .list 0 0 (fun _ => D.junk) .full, .list 0 0 (fun _ => D.junk) .full, .list 0 0 (fun _ => D.junk) .full], I 1]) else bif bif decide (t ≤ c.frm) then true else decide (t ≥ c.to) then True ∧ True ∧ K (.tup [.agg [I 0, I 0, .list 0 0 (fun _ => D.junk) .full, .list 0 0 (fun _ => D.junk) .full, .list 0 0 (fun _ => D.junk) .full], .agg [I 0, I 0, .list 0 0 (fun _ => D.junk) .full, .list 0 0 (fun _ => D.junk) .full, .list 0 0 (fun _ => D.junk) .full], I 2]) else At (En Tryz.f7) (fi Tryz.f7 K) [It.code [1, 1, 1, 0], It.code [1, 1, 1, 1]] { sl := [(1, I t), (2, .own [I c.frm, I c.to, L c.vals 1 .str, L c.chg 1 fun l => L l 2 Cg.d, L c.gaps 2 Gp.d]), (4, .own [I 0, I 0, .list 0 0 (fun _ => D.junk) .full, .list 0 0 (fun _ => D.junk) .full, .list 0 0 (fun _ => D.junk) .full]), (5, .own [I 0, I 0, .list 0 0 (fun _ => D.junk) .full, .list 0 0 (fun _ => D.junk) .full, .list 0 0 (fun _ => D.junk) .full])], h := Heap.empty : St }) := by kernel_rfl
def lv20b : List (List Nat × List Nat) := [([1, 1, 1, 1, 1, 0, 1, 0], [1, 4, 5, 8, 9, 53, 54, 55])]
def R20 (c : Chk) (t : Int) : St := ⟨[(1, I t), (2, .ep [I c.frm, I c.to, L c.vals 1 .str, L c.chg 1 (fun l => L l 2 Cg.d), L c.gaps 2 Gp.d]), (4, .own z5), (5, .own z5)], .empty⟩
noncomputable def n20rs (c : Chk) (t : Int) : List Nat → Nat → Option Ans := scrAt [([1, 1, 1, 1, 0], 6, Ans.pure [L c.vals 1 .str] (L c.vals 1 .str)), ([1, 1, 1, 1, 0], 7, Ans.pure [I c.frm, I t, L c.vals 1 .str, D.ep [I c.frm, I c.to, L c.vals 1 .str, L c.chg 1 fun l => L l 2 Cg.d, L c.gaps 2 Gp.d]] (partD c c.frm t c.vals)), ([1, 1, 1, 1, 0], 14, Ans.pure [c.d, I t] (L (valsAt c t) 1 .str)), ([1, 1, 1, 1, 0], 15, Ans.pure [I t, I c.to, L (valsAt c t) 1 .str, D.ep [I c.frm, I c.to, L c.vals 1 .str, L c.chg 1 fun l => L l 2 Cg.d, L c.gaps 2 Gp.d]] (partD c t c.to (valsAt c t)))]
theorem n20r [Lay] (c : Chk) (t : Int) (K : D → Prop) : runS (En Tryz.f7) (fi Tryz.f7 K) (n20rs c t) lv20b 200 [.code [1, 1, 1, 0], .code [1, 1, 1, 1]] (R20 c t) =
  (PureW PP 21 [L c.vals 1 .str] [L c.vals 1 .str] (L c.vals 1 .str) ∧ PureW PP 20 [I c.frm, I t, L c.vals 1 .str, D.ep [I c.frm, I c.to, L c.vals 1 .str, L c.chg 1 fun l => L l 2 Cg.d, L c.gaps 2 Gp.d]] [I c.frm, I t, L c.vals 1 .str, D.ep [I c.frm, I c.to, L c.vals 1 .str, L c.chg 1 fun l => L l 2 Cg.d, L c.gaps 2 Gp.d]] (partD c c.frm t c.vals) ∧ PureW PP 22 [c.d, I t] [c.d, I t] (L (valsAt c t) 1 .str) ∧ PureW PP 20 [I t, I c.to, L (valsAt c t) 1 .str, D.ep [I c.frm, I c.to, L c.vals 1 .str, L c.chg 1 fun l => L l 2 Cg.d, L c.gaps 2 Gp.d]] [I t, I c.to, L (valsAt c t) 1 .str, D.ep [I c.frm, I c.to, L c.vals 1 .str, L c.chg 1 fun l => L l 2 Cg.d, L c.gaps 2 Gp.d]] (partD c t c.to (valsAt c t)) ∧ True ∧ True ∧ (c.gaps.length ≤ lenM → At (En Tryz.f7) (fi Tryz.f7 K) [It.code [1, 1, 1, 1, 1, 0, 1, 0], It.blk 0, It.code [1, 1, 1, 1, 1, 1]] { sl := [(1, I t), (4, .own [I 0, I 0, .list 0 0 (fun _ => D.junk) .full, .list 0 0 (fun _ => D.junk) .full, .list 0 0 (fun _ => D.junk) .full]), (5, .own [I 0, I 0, .list 0 0 (fun _ => D.junk) .full, .list 0 0 (fun _ => D.junk) .full, .list 0 0 (fun _ => D.junk) .full]), (8, .own [I c.frm, I t, L c.vals 1 .str, L (List.map (cut c.frm t) c.chg) 1 fun l => L l 2 Cg.d, .list 0 0 (fun _ => D.junk) .full]), (9, .own [I t, I c.to, L (valsAt c t) 1 .str, L (List.map (cut t c.to) c.chg) 1 fun l => L l 2 Cg.d, .list 0 0 (fun _ => D.junk) .full]), (53, L c.gaps 2 Gp.d), (54, I (↑c.gaps.length : Int)), (55, I 0)], h := Heap.empty : St })) := by kernel_rfl
abbrev cell4 (f t : Int) (vs : List Str) (ch : List (List Cg)) (g : D) : List D := [I f, I t, L vs 1 .str, L ch 1 (fun l => L l 2 Cg.d), g]
def hAB (n m : Nat) : Heap := ⟨fun _ => none, 0, upd (upd (fun _ => none) 0 (some n)) 1 (some m), 2, fun _ => none⟩
def S20 (c : Chk) (t : Int) (a b : List Gp) (i : Int) : St := ⟨[(1, I t), (4, .own z5), (5, .own z5), (8, .own (cell4 c.frm t c.vals (c.chg.map (cut c.frm t)) (LT a 2 Gp.d 0))), (9, .own (cell4 t c.to (valsAt c t) (c.chg.map (cut t c.to)) (LT b 2 Gp.d 1))), (53, L c.gaps 2 Gp.d), (54, I c.gaps.length), (55, I i)], hAB a.length b.length⟩
noncomputable def n20as  : List Nat → Nat → Option Ans := scrAt []
theorem n20a [Lay] (c : Chk) (t : Int) (a b : List Gp) (i : Int) (J : St → Prop) (K : D → Prop) : runS (En Tryz.f7) (fi Tryz.f7 K) (n20as ) lv7 200 [.code [1, 1, 1, 1, 1, 0, 1, 0, 0], stp [1, 4, 5, 8, 9, 53, 54, 55] J, .blk 0, .code [1, 1, 1, 1, 1, 1]] (S20 c t a b i) =
  (bif decide (i < (↑c.gaps.length : Int)) then
  (0 ≤ i ∧ i < (↑c.gaps.length : Int)) ∧
    True ∧
      True ∧
        bif decide ((c.gaps.getD i.toNat default).frm < if addI .i64 t 1 < (c.gaps.getD i.toNat default).to then addI .i64 t 1 else (c.gaps.getD i.toNat default).to) then
          (upd (upd (fun _ => none) 0 (some a.length)) 1 (some b.length) 0 = some a.length ∧ (a.length + 1) * 16 ≤ roomM) ∧
            True ∧
              True ∧
                bif decide ((if addI .i64 t 1 > (c.gaps.getD i.toNat default).frm then addI .i64 t 1 else (c.gaps.getD i.toNat default).frm) < (c.gaps.getD i.toNat default).to) then (upd (upd (upd (fun _ => none) 0 (some a.length)) 1 (some b.length)) 0 (some (a.length + 1)) 1 = some b.length ∧ (b.length + 1) * 16 ≤ roomM) ∧ True ∧ J { sl := [(1, I t), (4, .own [I 0, I 0, .list 0 0 (fun _ => D.junk) .full, .list 0 0 (fun _ => D.junk) .full, .list 0 0 (fun _ => D.junk) .full]), (5, .own [I 0, I 0, .list 0 0 (fun _ => D.junk) .full, .list 0 0 (fun _ => D.junk) .full, .list 0 0 (fun _ => D.junk) .full]), (8, .own [I c.frm, I t, L c.vals 1 .str, L (List.map (cut c.frm t) c.chg) 1 fun l => L l 2 Cg.d, .list (a.length + 1) 2 (catG a.length (fun i => (a.getD i default).d) (litG [.agg [I (c.gaps.getD i.toNat default).frm, I (if addI .i64 t 1 < (c.gaps.getD i.toNat default).to then addI .i64 t 1 else (c.gaps.getD i.toNat default).to)]])) (.tok 0 2)]), (9, .own [I t, I c.to, L (valsAt c t) 1 .str, L (List.map (cut t c.to) c.chg) 1 fun l => L l 2 Cg.d, .list (b.length + 1) 2 (catG b.length (fun i => (b.getD i default).d) (litG [.agg [I (if addI .i64 t 1 > (c.gaps.getD i.toNat default).frm then addI .i64 t 1 else (c.gaps.getD i.toNat default).frm), I (c.gaps.getD i.toNat default).to]])) (.tok 1 2)]), (53, L c.gaps 2 Gp.d), (54, I (↑c.gaps.length : Int)), (55, I (addI .i64 i 1))], h := { box := fun _ => none, nl := 0, hw := upd (upd (upd (upd (fun _ => none) 0 (some a.length)) 1 (some b.length)) 0 (some (a.length + 1))) 1 (some (b.length + 1)), nt := 2, vw := fun _ => none : Heap } : St }
                else J { sl := [(1, I t), (4, .own [I 0, I 0, .list 0 0 (fun _ => D.junk) .full, .list 0 0 (fun _ => D.junk) .full, .list 0 0 (fun _ => D.junk) .full]), (5, .own [I 0, I 0, .list 0 0 (fun _ => D.junk) .full, .list 0 0 (fun _ => D.junk) .full, .list 0 0 (fun _ => D.junk) .full]), (8, .own [I c.frm, I t, L c.vals 1 .str, L (List.map (cut c.frm t) c.chg) 1 fun l => L l 2 Cg.d, .list (a.length + 1) 2 (catG a.length (fun i => (a.getD i default).d) (litG [.agg [I (c.gaps.getD i.toNat default).frm, I (if addI .i64 t 1 < (c.gaps.getD i.toNat default).to then addI .i64 t 1 else (c.gaps.getD i.toNat default).to)]])) (.tok 0 2)]), (9, .own [I t, I c.to, L (valsAt c t) 1 .str, L (List.map (cut t c.to) c.chg) 1 fun l => L l 2 Cg.d, .list b.length 2 (fun i => (b.getD i default).d) (.tok 1 2)]), (53, L c.gaps 2 Gp.d), (54, I (↑c.gaps.length : Int)), (55, I (addI .i64 i 1))], h := { box := fun _ => none, nl := 0, hw := upd (upd (upd (fun _ => none) 0 (some a.length)) 1 (some b.length)) 0 (some (a.length + 1)), nt := 2, vw := fun _ => none : Heap } : St }
        else
          True ∧
            bif decide ((if addI .i64 t 1 > (c.gaps.getD i.toNat default).frm then addI .i64 t 1 else (c.gaps.getD i.toNat default).frm) < (c.gaps.getD i.toNat default).to) then (upd (upd (fun _ => none) 0 (some a.length)) 1 (some b.length) 1 = some b.length ∧ (b.length + 1) * 16 ≤ roomM) ∧ True ∧ J { sl := [(1, I t), (4, .own [I 0, I 0, .list 0 0 (fun _ => D.junk) .full, .list 0 0 (fun _ => D.junk) .full, .list 0 0 (fun _ => D.junk) .full]), (5, .own [I 0, I 0, .list 0 0 (fun _ => D.junk) .full, .list 0 0 (fun _ => D.junk) .full, .list 0 0 (fun _ => D.junk) .full]), (8, .own [I c.frm, I t, L c.vals 1 .str, L (List.map (cut c.frm t) c.chg) 1 fun l => L l 2 Cg.d, .list a.length 2 (fun i => (a.getD i default).d) (.tok 0 2)]), (9, .own [I t, I c.to, L (valsAt c t) 1 .str, L (List.map (cut t c.to) c.chg) 1 fun l => L l 2 Cg.d, .list (b.length + 1) 2 (catG b.length (fun i => (b.getD i default).d) (litG [.agg [I (if addI .i64 t 1 > (c.gaps.getD i.toNat default).frm then addI .i64 t 1 else (c.gaps.getD i.toNat default).frm), I (c.gaps.getD i.toNat default).to]])) (.tok 1 2)]), (53, L c.gaps 2 Gp.d), (54, I (↑c.gaps.length : Int)), (55, I (addI .i64 i 1))], h := { box := fun _ => none, nl := 0, hw := upd (upd (upd (fun _ => none) 0 (some a.length)) 1 (some b.length)) 1 (some (b.length + 1)), nt := 2, vw := fun _ => none : Heap } : St }
            else J { sl := [(1, I t), (4, .own [I 0, I 0, .list 0 0 (fun _ => D.junk) .full, .list 0 0 (fun _ => D.junk) .full, .list 0 0 (fun _ => D.junk) .full]), (5, .own [I 0, I 0, .list 0 0 (fun _ => D.junk) .full, .list 0 0 (fun _ => D.junk) .full, .list 0 0 (fun _ => D.junk) .full]), (8, .own [I c.frm, I t, L c.vals 1 .str, L (List.map (cut c.frm t) c.chg) 1 fun l => L l 2 Cg.d, .list a.length 2 (fun i => (a.getD i default).d) (.tok 0 2)]), (9, .own [I t, I c.to, L (valsAt c t) 1 .str, L (List.map (cut t c.to) c.chg) 1 fun l => L l 2 Cg.d, .list b.length 2 (fun i => (b.getD i default).d) (.tok 1 2)]), (53, L c.gaps 2 Gp.d), (54, I (↑c.gaps.length : Int)), (55, I (addI .i64 i 1))], h := { box := fun _ => none, nl := 0, hw := upd (upd (fun _ => none) 0 (some a.length)) 1 (some b.length), nt := 2, vw := fun _ => none : Heap } : St }
 else True ∧ True ∧ K (.tup [.agg [I c.frm, I t, L c.vals 1 .str, L (List.map (cut c.frm t) c.chg) 1 fun l => L l 2 Cg.d, .list a.length 2 (fun i => (a.getD i default).d) (.tok 0 2)], .agg [I t, I c.to, L (valsAt c t) 1 .str, L (List.map (cut t c.to) c.chg) 1 fun l => L l 2 Cg.d, .list b.length 2 (fun i => (b.getD i default).d) (.tok 1 2)], I 0])) := by kernel_rfl
def mn (a b : Int) : Int := if a < b then a else b
def mx (a b : Int) : Int := if a > b then a else b
def gL (t : Int) (g : Gp) : List Gp := if decide (g.frm < mn (addI .i64 t 1) g.to) = true then [⟨g.frm, mn (addI .i64 t 1) g.to⟩] else []
def gR (t : Int) (g : Gp) : List Gp := if decide (mx (addI .i64 t 1) g.frm < g.to) = true then [⟨mx (addI .i64 t 1) g.frm, g.to⟩] else []
def gapsL (t : Int) (l : List Gp) : List Gp := l.flatMap (gL t)
def gapsR (t : Int) (l : List Gp) : List Gp := l.flatMap (gR t)
theorem gL_len (t : Int) (g : Gp) : (gL t g).length ≤ 1 := by unfold gL; split <;> simp
theorem gR_len (t : Int) (g : Gp) : (gR t g).length ≤ 1 := by unfold gR; split <;> simp
theorem fm_len {α β : Type} (q : α → List β) (h : ∀ x, (q x).length ≤ 1) : ∀ l : List α, (l.flatMap q).length ≤ l.length
  | [] => by simp
  | x :: r => by have := h x; have := fm_len q h r; simp only [List.flatMap_cons, List.length_append, List.length_cons]; omega
theorem fm_take {α β : Type} [Inhabited α] (q : α → List β) (l : List α) (i : Nat) (h : i < l.length) : (l.take (i + 1)).flatMap q = (l.take i).flatMap q ++ q (l.getD i default) := by
  rw [take_snoc _ _ h]; simp
def split (c : Chk) (t : Int) : Chk × Chk × Int :=
  bif (↑c.chg.length : Int) != (↑c.vals.length : Int) then (default, default, 1)
  else bif bif decide (t ≤ c.frm) then true else decide (t ≥ c.to) then (default, default, 2)
  else (⟨c.frm, t, c.vals, c.chg.map (cut c.frm t), gapsL t c.gaps⟩, ⟨t, c.to, valsAt c t, c.chg.map (cut t c.to), gapsR t c.gaps⟩, 0)
def splitD (x : Chk × Chk × Int) : D := .tup [x.1.d, x.2.1.d, I x.2.2]
instance {x : Chk × Chk × Int} : DD (splitD x) := inferInstanceAs (DD (.tup _))
theorem wkZ5 : Wk (.agg z5) (default : Chk).d := Wk.agg (Wks.cons (Wk.refl _) (Wks.cons (Wk.refl _) (Wks.cons Wk.nilL (Wks.cons Wk.nilL (Wks.cons Wk.nilL Wks.nil)))))
theorem updA {α : Type} {f : Nat → α} {a b c : α} : upd (upd (upd f 0 a) 1 b) 0 c = upd (upd f 0 c) 1 b := funext fun i => by
  unfold upd
  cases h0 : Nat.beq i 0 <;> cases h1 : Nat.beq i 1 <;> first | rfl | (have h2 := beq_eq.1 h0; have h3 := beq_eq.1 h1; omega)
theorem wkEnd {a : List Gp} {t : Nat} {x y : Int} {vs : List Str} {ch : List (List Cg)} : Wk (.agg [I x, I y, L vs 1 .str, L ch 1 (fun l => L l 2 Cg.d), .list a.length 2 (fun i => Gp.d (a.getD i default)) (.tok t 2)]) (Chk.d ⟨x, y, vs, ch, a⟩) :=
  Wk.agg (Wks.cons (Wk.refl _) (Wks.cons (Wk.refl _) (Wks.cons (Wk.refl _) (Wks.cons (Wk.refl _) (Wks.cons Wk.tokL Wks.nil)))))
theorem wkCell {f t : Int} {vs : List Str} {ch : List (List Cg)} {g g' : D} (h : Wk g g') : Wks (cell4 f t vs ch g) (cell4 f t vs ch g') :=
  Wks.cons (Wk.refl _) (Wks.cons (Wk.refl _) (Wks.cons (Wk.refl _) (Wks.cons (Wk.refl _) (Wks.cons h Wks.nil))))

theorem c7 [Lay] (c : Chk) (t : Int) (hs : SmallC c) : Pure PP 7 [c.d, I t] (splitD (split c t)) := by
  refine pu F7 (by kernel_rfl) (of_eq (n20 c t _) fun _ _ => cond_intro (fun h1 => ⟨trivial, trivial, ?_⟩) fun h1 => cond_intro (fun h2 => ⟨trivial, trivial, ?_⟩) fun h2 => ?_)
  · simp only [split, h1, cond_true]; exact Wk.tup (Wks.cons wkZ5 (Wks.cons wkZ5 (Wks.refl _)))
  · simp only [split, h1, h2, cond_true, cond_false]; exact Wk.tup (Wks.cons wkZ5 (Wks.cons wkZ5 (Wks.refl _)))
  simp only [split, h1, h2, cond_false]
  have hlen : c.chg.length = c.vals.length := by simp at h1; omega
  have hsm := hs
  obtain ⟨hs1, hs2, hs3, hs4⟩ := hs
  refine at_le (st' := R20 c t) ?_ ((StLe.layOwn 2 rfl rfl).cast (by kernel_rfl))
  refine runS_sound hmix 200 _ _ (of_eq (n20r c t _) ⟨PureW.mk (c21 _ (by omega)), PureW.mk (c20 c _ _ _ hsm), PureW.mk (c22 c t hlen (by omega)), PureW.mk (c20 c _ _ _ hsm), trivial, trivial, fun hg => ?_⟩)
  refine at_le (st' := S20 c t (gapsL t (c.gaps.take 0)) (gapsR t (c.gaps.take 0)) (0 : Nat)) ?_ (((StLe.idleOwn _ none 8 4 2 (fun i => Gp.d (([] : List Gp).getD i default)) rfl rfl).trans (StLe.idleOwn _ none 9 4 2 (fun i => Gp.d (([] : List Gp).getD i default)) rfl rfl)).cast (by kernel_rfl))
  refine lp (fn := Tryz.f7) (fun i : Nat => i ≤ c.gaps.length) (fun i => S20 c t (gapsL t (c.gaps.take i)) (gapsR t (c.gaps.take i)) i) (fun i => c.gaps.length - i) [1, 4, 5, 8, 9, 53, 54, 55] (by kernel_rfl) (fun i hi => of_eq (n20a c t _ _ i _ _) ((cond_intro (fun hlt => ?_) fun hge => ?_))) 0 (Nat.zero_le _)
  · have hlt := ltI hlt
    rw [add1 hlt hg, Int.toNat_natCast]
    have hL := fm_take (gL t) c.gaps i hlt
    have hR := fm_take (gR t) c.gaps i hlt
    have hLl := fm_len (gL t) (gL_len t) (c.gaps.take i)
    have hRl := fm_len (gR t) (gR_len t) (c.gaps.take i)
    have hti : (c.gaps.take i).length ≤ i := by simp; omega
    unfold gapsL gapsR
    generalize (c.gaps.take i).flatMap (gL t) = a at hL hLl ⊢
    generalize (c.gaps.take i).flatMap (gR t) = b at hR hRl ⊢
    generalize c.gaps.getD i default = g at hL hR ⊢
    have nod : ∀ {q : List Nat}, q = [1, 4, 5, 8, 9, 53, 54, 55] → q.Nodup := fun h => by subst h; decide
    refine ⟨⟨by omega, by omega⟩, trivial, trivial, cond_intro (fun hA => ⟨⟨by rw [upd_other _ _ (by decide), upd_same], by unfold roomM; omega⟩, trivial, trivial, cond_intro (fun hB => ⟨⟨by rw [upd_other _ _ (by decide), upd_same], by unfold roomM; omega⟩, trivial, ?_⟩) fun hB => ?_⟩) fun hA => ⟨trivial, cond_intro (fun hB => ⟨⟨upd_same _ _ _, by unfold roomM; omega⟩, trivial, ?_⟩) fun hB => ?_⟩⟩
    · have hA : decide (g.frm < mn (addI .i64 t 1) g.to) = true := hA
      have hB : decide (mx (addI .i64 t 1) g.frm < g.to) = true := hB
      rw [gL, if_pos hA] at hL
      rw [gR, if_pos hB] at hR
      refine Nx.of (i + 1) (by omega) (by omega) ?_
      unfold S20
      rw [hL, hR]
      exact (StLe.setOwn (nod rfl) 8 rfl (wkCell (Wk.snoc (x := (⟨g.frm, mn (addI .i64 t 1) g.to⟩ : Gp))))).trans ((StLe.setOwn (nod rfl) 9 rfl (wkCell (Wk.snoc (x := (⟨mx (addI .i64 t 1) g.frm, g.to⟩ : Gp))))).trans (StLe.heap (by simp [hAB, updA, upd_upd])))
    · have hA : decide (g.frm < mn (addI .i64 t 1) g.to) = true := hA
      have hB : ¬ decide (mx (addI .i64 t 1) g.frm < g.to) = true := Bool.eq_false_iff.1 hB
      rw [gL, if_pos hA] at hL
      rw [gR, if_neg hB, List.append_nil] at hR
      refine Nx.of (i + 1) (by omega) (by omega) ?_
      unfold S20
      rw [hL, hR]
      exact (StLe.setOwn (nod rfl) 8 rfl (wkCell (Wk.snoc (x := (⟨g.frm, mn (addI .i64 t 1) g.to⟩ : Gp))))).trans (StLe.heap (by simp [hAB, updA, upd_upd]))
    · have hA : ¬ decide (g.frm < mn (addI .i64 t 1) g.to) = true := Bool.eq_false_iff.1 hA
      have hB : decide (mx (addI .i64 t 1) g.frm < g.to) = true := hB
      rw [gL, if_neg hA, List.append_nil] at hL
      rw [gR, if_pos hB] at hR
      refine Nx.of (i + 1) (by omega) (by omega) ?_
      unfold S20
      rw [hL, hR]
      exact (StLe.setOwn (nod rfl) 9 rfl (wkCell (Wk.snoc (x := (⟨mx (addI .i64 t 1) g.frm, g.to⟩ : Gp))))).trans (StLe.heap (by simp [hAB, updA, upd_upd]))
    · have hA : ¬ decide (g.frm < mn (addI .i64 t 1) g.to) = true := Bool.eq_false_iff.1 hA
      have hB : ¬ decide (mx (addI .i64 t 1) g.frm < g.to) = true := Bool.eq_false_iff.1 hB
      rw [gL, if_neg hA, List.append_nil] at hL
      rw [gR, if_neg hB, List.append_nil] at hR
      refine Nx.of (i + 1) (by omega) (by omega) ?_
      unfold S20
      rw [hL, hR]
      exact StLe.refl _ _
  · have := geI hge
    rw [List.take_of_length_le this]
    exact ⟨trivial, trivial, Wk.tup (Wks.cons wkEnd (Wks.cons wkEnd (Wks.refl _)))⟩
end Go.Proofs.YtmlhaikblfjghaaGreatDoor.S1
/- Seat 1: the reference's plans of groups; the laws on plans. -/
namespace Go.Proofs.YtmlhaikblfjghaaGreatDoor.S1
open Go Go.Ab Go.Proofs
def cplan (d : Dir) (m : Int) : List Rg := bif bif bif !dirOk d then true else decide (m < 1) then true else decide (m > 16384) then [] else groups d m
theorem F10 : OkF 10 Tryz.f10 := ⟨by kernel_rfl, by kernel_rfl, by kernel_rfl⟩
def lv10 : List (List Nat × List Nat) := []
noncomputable def n24s (d : Dir) (m : Int) : List Nat → Nat → Option Ans := scrAt [([1, 0, 0], 1, Ans.pure [d.d] (B (dirOk d))), ([1, 1, 0], 2, Ans.pure [d.d, I m] (L (groups d m) 2 Rg.d))]
theorem n24 [Lay] (d : Dir) (m : Int) (K : D → Prop) : runS (En Tryz.f10) (fi Tryz.f10 K) (n24s d m) lv10 200 [.code []] ⟨argSlots 0 [d.d, I m], .empty⟩ =
  (PureW PP 31 [d.d] [d.d] (B (dirOk d)) ∧ bif bif bif !dirOk d then true else decide (m < 1) then true else decide (m > 16384) then K (.list 0 0 (fun _ => D.junk) .full) else PureW PP 32 [d.d, I m] [d.d, I m] (L (groups d m) 2 Rg.d) ∧ K (L (groups d m) 2 Rg.d)) := by kernel_rfl
theorem dirOk_of {d : Dir} {m : Int} (h : (bif bif !dirOk d then true else decide (m < 1) then true else decide (m > 16384)) = false) : d.blk.length ≤ 1000 := by
  have : dirOk d = true := by cases h1 : dirOk d <;> simp_all
  have := dirOk_len this; omega
theorem c10 [Lay] (d : Dir) (m : Int) : Pure PP 10 [d.d, I m] (L (cplan d m) 2 Rg.d) := by
  refine pu F10 (by kernel_rfl) (of_eq (n24 d m _) ⟨PureW.mk (c31 _), cond_intro (fun h => ?_) fun h => ⟨PureW.mk (c32 d m (dirOk_of h)), ?_⟩⟩)
  · simp only [cplan, h, cond_true]; exact Wk.nilL
  · simp only [cplan, h, cond_false]; exact Wk.refl _
end Go.Proofs.YtmlhaikblfjghaaGreatDoor.S1
