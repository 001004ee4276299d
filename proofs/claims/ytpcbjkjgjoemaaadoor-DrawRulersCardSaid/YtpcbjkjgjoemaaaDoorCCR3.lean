/- strings.Builder: its box and its bytes. -/
import Derived.Test.YtpcbjkjgjoemaaaDoorCCR2
import Derived.Shelf.Strings.Builder1
import Derived.Shelf.RegionOpen
import Derived.Ground.NamesProg
import Derived.Shelf.Strings.SlTrimAscii
import Derived.Shelf.Strings.Repeat
namespace Go.Proofs
open Go.Shelf
theorem Tryd.sbInfo : (Tryd.prog.info? 57).map (·.size) = some 2 := by kernel_rfl
theorem Tryd.sbLies : liesAt Tryd.prog Tryd.prog.depth 57 (2 / Tryd.prog.cellsOf 57) 0 57 1 = true := by kernel_rfl
set_option maxHeartbeats 1000000 in
set_option maxRecDepth 100000 in
theorem Tryd.ccUsed (b : Nat) (w : World) (h0 : w.cell? ⟨b, 0, none⟩ = some (.pointer (some ⟨b, 0, none⟩))) :
    Calls Tryd.prog 57 #[.pointer (some ⟨b, 0, none⟩)] w fun e w' => e = .returned (.tuple #[]) ∧ w' = w := by
  obtain ⟨j, hj, _⟩ := Option.map_eq_some_iff.1 Tryd.sbInfo
  go_enter Tryd.func57, Tryd.ntmps57
  go_wp2
  rw [Lib.run_neq_ptr_same w _ Tryd.underlying54 hj]
  go_wp2
  go_end0
  exact ⟨rfl, rfl⟩
set_option maxHeartbeats 1000000 in
set_option maxRecDepth 100000 in
theorem Tryd.ccFresh (b : Nat) (w : World) (h0 : w.cell? ⟨b, 0, none⟩ = some (.pointer none)) (hsh : w.shape? b = some (57, 2)) (hfz : w.frozen? ⟨b, 0, none⟩ = false) :
    Calls Tryd.prog 57 #[.pointer (some ⟨b, 0, none⟩)] w fun e w' => e = .returned (.tuple #[]) ∧ w' = w.setCell ⟨b, 0, none⟩ (.pointer (some ⟨b, 0, none⟩)) := by
  obtain ⟨j, hj, hjs⟩ := Option.map_eq_some_iff.1 Tryd.sbInfo
  go_enter Tryd.func57, Tryd.ntmps57
  go_wp2
  rw [Lib.run_to_unsafe w ⟨b, 0, none⟩ Tryd.underlying54 Tryd.underlying131 hj (by rw [hjs]; decide) hsh (Nat.zero_lt_succ 1)]
  simp only [Result.andThen]
  rw [Oper.upon_value]
  go_wp2
  rw [run_callFunc_extern Tryd.func77 (by kernel_rfl) (by kernel_rfl) (by kernel_rfl) (e := Extern.AbiNoEscape.same) (by kernel_rfl)]
  rw [Lib.run_noEscape]
  simp only [Result.andThen]
  rw [Oper.upon_value]
  go_wp2
  rw [Lib.run_from_unsafe w ⟨b, 0, none⟩ Tryd.underlying131 Tryd.underlying54 hj hsh Tryd.sbLies]
  simp only [Result.andThen]
  rw [Oper.upon_value]
  go_wp2
  go_end0
  exact ⟨rfl, rfl⟩
end Go.Proofs
namespace Go.Proofs.YtpcbjkjgjoemaaaDoor.S1
open Go Go.Ab Go.Proofs
abbrev encB (b : UInt8) : D := .int .u8 b.toNat
instance {b : UInt8} : DD (encB b) := inferInstanceAs (DD (.int _ _))
abbrev TB : Nat := 57
abbrev TU : Nat := 5
/-- A Builder with these bytes; a: its first word: nil, or itself. -/
def hSb (a : D) (es : Str) : Heap := ⟨upd (fun _ => none) 0 (some (.litT TB [a, .bv TU 0 es.length])), 1, upd (fun _ => none) 0 (some es.length), 1, upd (fun _ => none) 0 (some (cv es encB))⟩
theorem setCell_other {w : World} {b k : Nat} {v : Value} (h : k ≠ b) : (w.setCell ⟨b, 0, none⟩ v).heap[k]? = w.heap[k]? := by
  simp [World.setCell, Array.getElem?_modify, Ne.symm h]
theorem setCell_at {w : World} {b T : Nat} {vals : Array Value} {z : Nat × Nat} {v : Value} (h : w.heap[b]? = some (.cells vals T z)) : (w.setCell ⟨b, 0, none⟩ v).heap[b]? = some (.cells (vals.setIfInBounds 0 v) T z) := by
  simp [World.setCell, Array.getElem?_modify, h]
theorem e57 [Lay] (a : D) (ha : a = .nilp ∨ a = .bp 0 0) (es : Str) : Does PP 57 [.bp 0 0] (hSb a es) (.tup []) (hSb (.bp 0 0) es) := by
  refine Does.of_calls ⟨Tryd.f57, by kernel_rfl, by kernel_rfl, by kernel_rfl⟩ fun g U w vs i hs => ?_
  simp only [Rs, R] at hs
  obtain ⟨_, _, rfl, ⟨b, hmu, rfl⟩, rfl⟩ := hs
  obtain ⟨b', e1, ⟨vals, hb, hv⟩, hU, hσ⟩ := i.box 0 _ (show (hSb a es).box 0 = some (.litT TB [a, .bv TU 0 es.length]) from rfl)
  rw [hmu] at e1; cases e1
  rw [show Rs g [a, .bv TU 0 es.length] vals.toList ↔ ∃ v r, vals.toList = v :: r ∧ R g a v ∧ Rs g [.bv TU 0 es.length] r from by simp only [Rs]] at hv
  obtain ⟨v0, r, hvl, h0, h1⟩ := hv
  have hvals : vals = (v0 :: r).toArray := by rw [← hvl]
  have hr1 : r.length = 1 := h1.length
  have hlt : b < w.heap.size := lt_of_heap hb
  rcases ha with rfl | rfl
  · simp only [R] at h0
    subst h0
    have hc0 : w.cell? ⟨b, 0, none⟩ = some (.pointer none) := by simp [World.cell?, hb, hvals]
    have hsh : w.shape? b = some (TB, 2) := by simp [World.shape?, hb, hvals, hr1]
    have hfz : w.frozen? ⟨b, 0, none⟩ = false := by simp [World.frozen?, hb]
    refine (Tryd.ccFresh b w hc0 hsh hfz).mono fun e w' ⟨he, hw⟩ => ?_
    subst hw
    have hb' := setCell_at (v := .pointer (some ⟨b, 0, none⟩)) hb
    have i' := Inv.row (row' := .litT TB [.bp 0 0, .bv TU 0 es.length]) i hmu hb' ⟨rfl, by
      rw [hvals]
      simp only [List.setIfInBounds_toArray, List.set_cons_zero, Rs]
      exact ⟨_, _, rfl, by simp only [R]; exact ⟨b, hmu, rfl⟩, by simpa only [Rs] using h1⟩⟩ (by simp) (fun k hk _ => setCell_other hk)
    refine ⟨.tuple #[], g, he, by simp [R, Rs], i', Grow.refl U g, rfl, rfl, rfl, by simp, fun k hk => setCell_other fun h => hU (h ▸ hk), fun k e => ?_⟩
    by_cases hk : k = b
    · subst hk; rw [hb] at e; cases e
    · rw [setCell_other hk]; exact e
  · simp only [R] at h0
    obtain ⟨b2, h2, rfl⟩ := h0
    rw [hmu] at h2; cases h2
    have hc0 : w.cell? ⟨b, 0, none⟩ = some (.pointer (some ⟨b, 0, none⟩)) := by simp [World.cell?, hb, hvals]
    refine (Tryd.ccUsed b w hc0).mono fun e w' ⟨he, hw⟩ => ?_
    subst hw
    exact ⟨.tuple #[], g, he, by simp [R, Rs], i, Grow.refl U g, Kept.refl U _⟩
end Go.Proofs.YtpcbjkjgjoemaaaDoor.S1
/- strings.Builder: writing, and its string. -/
namespace Go.Proofs
open Go.Shelf
set_option maxHeartbeats 2000000 in
set_option maxRecDepth 100000 in
theorem Tryd.sbString (b g cap : Nat) (p : Value) (l : List UInt8) (cur : Array Value) (w : World) (fz : Nat × Nat) (h0 : l ≠ []) (hbk : w.heap[b]? = some (.cells #[p, .slice (some ⟨g, 0, none⟩) l.length cap] 57 (0, 0)))
    (hg : w.heap[g]? = some (.cells cur 5 fz)) (hnc : l.length ≤ cap) (hcm : l.length ≤ 9223372036854775807) (hcs : cap ≤ cur.size) (hc : ∀ (j : Nat) (x : UInt8), l[j]? = some x → cur[j]? = some (Value.int .u8 x.toNat)) :
    Calls Tryd.prog 23 #[.pointer (some ⟨b, 0, none⟩)] w fun e w' => e = .returned (.string ⟨l.toArray⟩) ∧ w' = w.drew.freeze ⟨g, 0, none⟩ l.length := by
  have hl0 : l.length ≠ 0 := by simpa using h0
  have c1 : w.drew.cell? ⟨b, 1, none⟩ = some (.slice (some ⟨g, 0, none⟩) l.length cap) := by
    have : w.drew.heap[b]? = some (.cells #[p, .slice (some ⟨g, 0, none⟩) l.length cap] 57 (0, 0)) := hbk
    rw [Lib.cell_of_heap this]; rfl
  have hSD : (Builtin.unsafeSliceData_ #[55] 102 #[.slice (some ⟨g, 0, none⟩) l.length cap]).run Tryd.prog w.drew = .ok (.pointer (some ⟨g, 0, none⟩)) w.drew :=
    Lib.run_unsafeSliceData_row _ _ _ _ _ _ (by omega)
  have hUS : (Builtin.unsafeString_ #[102, 3] 9 #[.pointer (some ⟨g, 0, none⟩), .int .i64 l.length]).run Tryd.prog w.drew = .ok (.string ⟨l.toArray⟩) (w.drew.freeze ⟨g, 0, none⟩ l.length) := by
    refine Lib.run_unsafeString_row w.drew 102 3 9 5 Tryd.underlying102 (by kernel_rfl) g cur.size (by have hg' : w.drew.heap[g]? = some (.cells cur 5 fz) := hg; simp [World.shape?, hg']) l h0 (by omega) hcm ?_
    intro j x hx
    have hg' : w.drew.heap[g]? = some (.cells cur 5 fz) := hg
    have ha : (⟨g, 0, none⟩ : Addr).add j = ⟨g, j, none⟩ := by simp [Addr.add]; intro h; exact h.symm
    rw [ha, Lib.cell_of_heap hg']
    exact hc j x hx
  have mixed : Tryd.prog.follows .mixedOrders = true := by kernel_rfl
  go_enter Tryd.func23, Tryd.ntmps23
  go_wp2
  go_region_o
  all_goals (go_wp2; go_ret; exact ⟨rfl, rfl⟩)
end Go.Proofs
namespace Go.Proofs.YtpcbjkjgjoemaaaDoor.S1
open Go Go.Ab Go.Proofs
theorem F21 : OkF 21 Tryd.f21 := ⟨by kernel_rfl, by kernel_rfl, by kernel_rfl⟩
def lv21 : List (List Nat × List Nat) := []
noncomputable def nWBs (es : Str) : List Nat → Nat → Option Ans := scrAt [([1, 0], 1, Ans.eff (.tup []) (hSb (D.bp 0 0) es))]
theorem nWB [Lay] (a : D) (es : Str) (c : UInt8) (K : D → Heap → Prop) : runS (En Tryd.f21) (fh Tryd.f21 K) (nWBs es) lv21 200 [.code []] ⟨argSlots 0 [.bp 0 0, encB c], hSb a es⟩ =
  (Does PP 57 [D.bp 0 0] { box := upd (fun _ => none) 0 (some (Row.litT TB [a, D.bv TU 0 (List.length es)])), nl := 1, hw := upd (fun _ => none) 0 (some (List.length es)), nt := 1, vw := upd (fun _ => none) 0 (some (cv es encB)) : Heap } (.tup []) (hSb (D.bp 0 0) es) ∧ (upd (fun _ => none) 0 (some (List.length es)) 0 = some (List.length es) ∧ (List.length es + 1) * 1 ≤ roomM) ∧ True ∧ K D.nili { box := upd (upd (fun _ => none) 0 (some (Row.litT TB [D.bp 0 0, D.bv TU 0 (List.length es)]))) 0 (some (Row.litT TB [D.bp 0 0, D.bv TU 0 (List.length es + 1)])), nl := 1, hw := upd (upd (fun _ => none) 0 (some (List.length es))) 0 (some (List.length es + 1)), nt := 1, vw := upd (upd (fun _ => none) 0 (some (cv es encB))) 0 (some (catG (List.length es) (cv es encB) (litG [D.int IntKind.u8 (↑c.toNat : Int)]))) : Heap }) := by kernel_rfl
theorem F46 : OkF 46 Tryd.f46 := ⟨by kernel_rfl, by kernel_rfl, by kernel_rfl⟩
def lv46 : List (List Nat × List Nat) := []
noncomputable def nWSs (es : Str) : List Nat → Nat → Option Ans := scrAt [([1, 0], 1, Ans.eff (.tup []) (hSb (D.bp 0 0) es))]
theorem nWS [Lay] (a : D) (es q : Str) (K : D → Heap → Prop) : runS (En Tryd.f46) (fh Tryd.f46 K) (nWSs es) lv46 200 [.code []] ⟨argSlots 0 [.bp 0 0, .str q], hSb a es⟩ =
  (Does PP 57 [D.bp 0 0] { box := upd (fun _ => none) 0 (some (Row.litT TB [a, D.bv TU 0 (List.length es)])), nl := 1, hw := upd (fun _ => none) 0 (some (List.length es)), nt := 1, vw := upd (fun _ => none) 0 (some (cv es encB)) : Heap } (.tup []) (hSb (D.bp 0 0) es) ∧ (upd (fun _ => none) 0 (some (List.length es)) 0 = some (List.length es) ∧ (List.length es + List.length q) * 1 ≤ roomM) ∧ True ∧ (List.length q ≤ strM → K (.tup [I (↑(List.length q) : Int), D.nili]) { box := upd (upd (fun _ => none) 0 (some (Row.litT TB [D.bp 0 0, D.bv TU 0 (List.length es)]))) 0 (some (Row.litT TB [D.bp 0 0, D.bv TU 0 (List.length es + List.length q)])), nl := 1, hw := upd (upd (fun _ => none) 0 (some (List.length es))) 0 (some (List.length es + List.length q)), nt := 1, vw := upd (upd (fun _ => none) 0 (some (cv es encB))) 0 (some (catG (List.length es) (cv es encB) (strG q))) : Heap })) := by kernel_rfl
theorem cat_cvs {es q : Str} {i : Nat} : catG es.length (cv es encB) (strG q) i = cv (es ++ q) encB i := by
  unfold catG cv strG
  rcases Nat.lt_or_ge i es.length with h | h
  · rw [blt_tt.2 h]; simp [List.getD, List.getElem?_append_left h]
  · rw [blt_ff.2 h]
    simp only [cond_false, List.getD, List.getElem?_append_right h]
    rfl
theorem e21 [Lay] (a : D) (ha : a = .nilp ∨ a = .bp 0 0) (es : Str) (c : UInt8) (hl : es.length ≤ 1000000000) : Does PP 21 [.bp 0 0, encB c] (hSb a es) .nili (hSb (.bp 0 0) (es ++ [c])) := by
  refine du F21 (by kernel_rfl) (of_eq (nWB a es c _) ⟨e57 a ha es, ⟨upd_same _ _ _, by unfold roomM; omega⟩, trivial, ?_⟩)
  simp only [hSb, List.length_append, List.length_singleton]
  rw [upd_upd, upd_upd, upd_upd]
  exact RetLe.of (Wk.refl _) (HeapLe.vec (upd_same _ _ _) (VwLe.eq fun i hi => cat_cv rfl hi))
theorem e46 [Lay] (a : D) (ha : a = .nilp ∨ a = .bp 0 0) (es q : Str) (hl : es.length + q.length ≤ 1000000000) : Does PP 46 [.bp 0 0, .str q] (hSb a es) (.tup [I q.length, .nili]) (hSb (.bp 0 0) (es ++ q)) := by
  refine du F46 (by kernel_rfl) (of_eq (nWS a es q _) ⟨e57 a ha es, ⟨upd_same _ _ _, by unfold roomM; omega⟩, trivial, fun _ => ?_⟩)
  simp only [hSb, List.length_append]
  rw [upd_upd, upd_upd, upd_upd]
  exact RetLe.of (Wk.refl _) (HeapLe.vec (upd_same _ _ _) (VwLe.eq fun i hi => cat_cvs))
/-- The heap of which nothing is known, with one box and one array of old. -/
def h11 : Heap := ⟨fun _ => none, 1, fun _ => none, 1, fun _ => none⟩
theorem freeze_other {w : World} {g n k : Nat} (h : k ≠ g) : (w.drew.freeze ⟨g, 0, none⟩ n).heap[k]? = w.heap[k]? := by
  unfold World.freeze
  split
  · rfl
  · simp [Array.getElem?_modify, Ne.symm h, World.drew, -World.drew_eq]
theorem freeze_cell {w : World} {g n : Nat} (a : Addr) : (w.drew.freeze ⟨g, 0, none⟩ n).cell? a = w.cell? a := by
  by_cases h : a.block = g
  · unfold World.freeze
    split
    · rfl
    · simp only [World.cell?, Array.getElem?_modify, h, if_true, World.drew]
      cases hx : w.heap[g]? with
      | none => rfl
      | some o => cases o <;> simp
  · exact cell?_of_heap (freeze_other h)
theorem freeze_lay [Lay] {G0 : G} {w : World} {g n : Nat} (h : LayOk G0 w) : LayOk G0 (w.drew.freeze ⟨g, 0, none⟩ n) := by
  refine ⟨h.1, fun b cs e => ?_⟩
  obtain ⟨T, fz, h1⟩ := h.2 b cs e
  by_cases hx : b = g
  · subst hx
    unfold World.freeze
    split
    · exact ⟨T, fz, h1⟩
    · simp only [Array.getElem?_modify, if_true, World.drew, h1, Option.map_some]
      exact ⟨_, _, rfl⟩
  · rw [freeze_other hx]; exact ⟨T, fz, h1⟩
theorem freeze_size {w : World} {g n : Nat} : (w.drew.freeze ⟨g, 0, none⟩ n).heap.size = w.heap.size := by
  unfold World.freeze
  split
  · rfl
  · simp [World.drew, -World.drew_eq]
theorem e23 [Lay] (a : D) (es : Str) (h0 : es ≠ []) : Does PP 23 [.bp 0 0] (hSb a es) (.str es) h11 := by
  refine Does.of_calls ⟨Tryd.f23, by kernel_rfl, by kernel_rfl, by kernel_rfl⟩ fun g U w vs i hs => ?_
  simp only [Rs, R] at hs
  obtain ⟨_, _, rfl, ⟨b, hmu, rfl⟩, rfl⟩ := hs
  obtain ⟨b', e1, ⟨vals, hb, hv⟩, hU, hσ⟩ := i.box 0 _ (show (hSb a es).box 0 = some (.litT TB [a, .bv TU 0 es.length]) from rfl)
  rw [hmu] at e1; cases e1
  simp only [Rs, R] at hv
  obtain ⟨v0, r, hvl, _, v1, r1, hr, ⟨hml, ba, cap, rfl, hcap, k, hk, hks, hkn, hka⟩, rfl⟩ := hv
  have hvals : vals = #[v0, .slice ba es.length cap] := by
    have : vals.toList = #[v0, .slice ba es.length cap].toList := by rw [hvl, hr]
    exact Array.toList_inj.1 this
  obtain ⟨k2, e1, e2, e3⟩ := i.tok 0 es.length rfl
  rw [hk] at e1; cases e1
  obtain ⟨rfl, rfl, hty⟩ := hka e2.symm
  have hpos : 0 < es.length := List.length_pos_iff.2 h0
  have hTk := e3 (show lowOf k (some (cv es encB)) < k.cap from (by show 0 < k.cap; omega))
  obtain ⟨gb, f1, f2, T, cur, f3, ⟨f4, f5⟩, f6, f7⟩ := hTk
  obtain ⟨f8, f9⟩ := f7 _ rfl
  rw [hty] at f5; subst f5
  rw [hks] at f4 f9
  rw [f1] at hvals
  subst hvals
  have hcur : ∀ (j : Nat) (x : UInt8), es[j]? = some x → cur[j]? = some (Value.int .u8 x.toNat) := fun j x hx => by
    have hj := (List.getElem?_eq_some_iff.1 hx).1
    obtain ⟨u, q1, q2, q3⟩ := f9 j (by omega)
    have hcv : cv es encB j = encB x := by simp [cv, List.getD, hx]
    rw [hcv] at q1
    simp only [R] at q1
    subst q1
    have := q3 0 (by omega)
    simpa [Value.cells] using this
  have hmx : es.length ≤ 9223372036854775807 := hml
  obtain ⟨fz, f3, _⟩ := f3
  refine (Tryd.sbString b gb k.cap v0 es cur w fz h0 hb f3 hcap hmx (by omega) hcur).mono fun e w' ⟨he, hw⟩ => ?_
  subst hw
  have hgl : gb < w.heap.size := lt_of_heap f3
  refine ⟨.string ⟨es.toArray⟩, g, he, by simp only [R, true_and]; exact hml, ?_, Grow.refl U g, ?_⟩
  · exact ⟨fun x v e => by rw [freeze_cell]; exact i.sub x v e, fun c hc => by rw [freeze_size]; exact i.ub c hc, fun l c e => by rw [freeze_size]; exact i.muLt l c e, fun l row e => (by cases e), fun l l' c e => absurd rfl e, fun t n e => (by cases e), fun t n k b l e => (by cases e), fun t t' n n' k k' b e => (by cases e), i.frL, i.frT, fun _ _ => rfl, freeze_lay i.ltab⟩
  · refine ⟨by unfold World.freeze; split <;> rfl, by unfold World.freeze; split <;> rfl, by unfold World.freeze; split <;> rfl, by rw [freeze_size]; exact Nat.le_refl _, fun c hc => freeze_other fun h => f2 (h ▸ hc), fun c hc => ?_⟩
    by_cases hcg : c = gb
    · subst hcg; rw [f3] at hc; cases hc
    · rw [freeze_other hcg]; exact hc
end Go.Proofs.YtpcbjkjgjoemaaaDoor.S1
/- strings.Trim, strings.Repeat. -/
namespace Go.Proofs
open Go.Shelf
def Tryd.trm_ren : Go.Shelf.Ren := ⟨fun | 160 => 20 | 232 => 51 | 231 => 50 | 227 => 52 | 234 => 54 | 233 => 53 | 236 => 56 | 235 => 55 | 228 => 73 | 271 => 76 | 151 => 75 | 197 => 74 | 120 => 87 | 152 => 86 | 260 => 85 | 137 => 93 | 119 => 94 | 224 => 95 | 225 => 96 | 217 => 102 | 266 => 105 | n => n, fun | 9 => 9 | 4 => 4 | 3 => 3 | 5 => 5 | 117 => 98 | 116 => 97 | 0 => 0 | 124 => 101 | 21 => 21 | 105 => 128 | 46 => 117 | 119 => 151 | 139 => 154 | 138 => 153 | n => n, fun | 3 => 0 | 4 => 1 | n => n⟩
theorem Tryd.trm : Go.Proofs.Lays.n160 Tryd.prog Tryd.trm_ren := {
  mixed := by kernel_rfl
  f119 := Tryd.func94.trans (congrArg some (by kernel_rfl))
  f120 := Tryd.func87.trans (congrArg some (by kernel_rfl))
  f137 := Tryd.func93.trans (congrArg some (by kernel_rfl))
  f151 := Tryd.func75.trans (congrArg some (by kernel_rfl))
  f152 := Tryd.func86.trans (congrArg some (by kernel_rfl))
  f160 := Tryd.func20.trans (congrArg some (by kernel_rfl))
  f197 := Tryd.func74.trans (congrArg some (by kernel_rfl))
  f217 := Tryd.func102.trans (congrArg some (by kernel_rfl))
  f224 := Tryd.func95.trans (congrArg some (by kernel_rfl))
  f225 := Tryd.func96.trans (congrArg some (by kernel_rfl))
  f227 := Tryd.func52.trans (congrArg some (by kernel_rfl))
  f228 := Tryd.func73.trans (congrArg some (by kernel_rfl))
  f231 := Tryd.func50.trans (congrArg some (by kernel_rfl))
  f232 := Tryd.func51.trans (congrArg some (by kernel_rfl))
  f233 := Tryd.func53.trans (congrArg some (by kernel_rfl))
  f234 := Tryd.func54.trans (congrArg some (by kernel_rfl))
  f235 := Tryd.func55.trans (congrArg some (by kernel_rfl))
  f236 := Tryd.func56.trans (congrArg some (by kernel_rfl))
  f260 := Tryd.func85.trans (congrArg some (by kernel_rfl))
  f266 := Tryd.func105.trans (congrArg some (by kernel_rfl))
  f271 := Tryd.func76.trans (congrArg some (by kernel_rfl))
  t0 := Tryd.underlying0
  a0 := Tryd.isAgg0
  z0 := Tryd.sizeOf0
  v0 := Tryd.zeroValue0
  t3 := Tryd.underlying3
  a3 := Tryd.isAgg3
  z3 := Tryd.sizeOf3
  v3 := Tryd.zeroValue3
  t4 := Tryd.underlying4
  a4 := Tryd.isAgg4
  z4 := Tryd.sizeOf4
  v4 := Tryd.zeroValue4
  t5 := Tryd.underlying5
  a5 := Tryd.isAgg5
  z5 := Tryd.sizeOf5
  v5 := Tryd.zeroValue5
  t9 := Tryd.underlying9
  a9 := Tryd.isAgg9
  z9 := Tryd.sizeOf9
  v9 := Tryd.zeroValue9
  t21 := Tryd.underlying21
  a21 := Tryd.isAgg21
  z21 := Tryd.sizeOf21
  v21 := Tryd.zeroValue21
  t46 := Tryd.underlying117
  a46 := Tryd.isAgg117
  z46 := Tryd.sizeOf117
  v46 := Tryd.zeroValue117
  t105 := Tryd.underlying128
  a105 := Tryd.isAgg128
  z105 := Tryd.sizeOf128
  v105 := Tryd.zeroValue128
  t116 := Tryd.underlying97
  a116 := Tryd.isAgg97
  z116 := Tryd.sizeOf97
  t117 := Tryd.underlying98
  a117 := Tryd.isAgg98
  z117 := Tryd.sizeOf98
  v117 := Tryd.zeroValue98
  t119 := Tryd.underlying151
  a119 := Tryd.isAgg151
  z119 := Tryd.sizeOf151
  t124 := Tryd.underlying101
  a124 := Tryd.isAgg101
  z124 := Tryd.sizeOf101
  v124 := Tryd.zeroValue101
  t138 := Tryd.underlying153
  a138 := Tryd.isAgg153
  z138 := Tryd.sizeOf153
  v138 := Tryd.zeroValue153
  t139 := Tryd.underlying154
  a139 := Tryd.isAgg154
  z139 := Tryd.sizeOf154
  v139 := Tryd.zeroValue154
  g3 := by kernel_rfl
  g4 := by kernel_rfl }
def Tryd.rep_ren : Go.Shelf.Ren := ⟨fun | 105 => 39 | 212 => 65 | 99 => 66 | 165 => 67 | 166 => 46 | 170 => 68 | 169 => 23 | 263 => 79 | 264 => 80 | 206 => 81 | 240 => 57 | 241 => 82 | 276 => 77 | 277 => 88 | n => n, fun | 9 => 9 | 3 => 3 | 4 => 4 | 20 => 20 | 0 => 0 | 46 => 117 | 109 => 118 | 5 => 5 | 72 => 57 | 76 => 93 | 51 => 137 | 146 => 138 | 53 => 140 | 148 => 141 | 70 => 54 | 37 => 55 | 75 => 59 | 127 => 102 | 164 => 131 | 80 => 62 | n => n, fun | n => n⟩
theorem Tryd.rep : Go.Proofs.Lays.n105 Tryd.prog Tryd.rep_ren := {
  mixed := by kernel_rfl
  f99 := Tryd.func66.trans (congrArg some (by kernel_rfl))
  f105 := Tryd.func39.trans (congrArg some (by kernel_rfl))
  f165 := Tryd.func67.trans (congrArg some (by kernel_rfl))
  f166 := Tryd.func46.trans (congrArg some (by kernel_rfl))
  f169 := Tryd.func23.trans (congrArg some (by kernel_rfl))
  f170 := Tryd.func68.trans (congrArg some (by kernel_rfl))
  f206 := Tryd.func81.trans (congrArg some (by kernel_rfl))
  f212 := Tryd.func65.trans (congrArg some (by kernel_rfl))
  f240 := Tryd.func57.trans (congrArg some (by kernel_rfl))
  f241 := Tryd.func82.trans (congrArg some (by kernel_rfl))
  f263 := Tryd.func79.trans (congrArg some (by kernel_rfl))
  f264 := Tryd.func80.trans (congrArg some (by kernel_rfl))
  f276 := Tryd.func77.trans (congrArg some (by kernel_rfl))
  f277 := Tryd.func88.trans (congrArg some (by kernel_rfl))
  t0 := Tryd.underlying0
  a0 := Tryd.isAgg0
  z0 := Tryd.sizeOf0
  v0 := Tryd.zeroValue0
  t3 := Tryd.underlying3
  a3 := Tryd.isAgg3
  z3 := Tryd.sizeOf3
  v3 := Tryd.zeroValue3
  t4 := Tryd.underlying4
  a4 := Tryd.isAgg4
  z4 := Tryd.sizeOf4
  v4 := Tryd.zeroValue4
  t5 := Tryd.underlying5
  a5 := Tryd.isAgg5
  z5 := Tryd.sizeOf5
  v5 := Tryd.zeroValue5
  t9 := Tryd.underlying9
  a9 := Tryd.isAgg9
  z9 := Tryd.sizeOf9
  v9 := Tryd.zeroValue9
  t20 := Tryd.underlying20
  a20 := Tryd.isAgg20
  z20 := Tryd.sizeOf20
  v20 := Tryd.zeroValue20
  t37 := Tryd.underlying55
  a37 := Tryd.isAgg55
  z37 := Tryd.sizeOf55
  v37 := Tryd.zeroValue55
  t46 := Tryd.underlying117
  a46 := Tryd.isAgg117
  z46 := Tryd.sizeOf117
  v46 := Tryd.zeroValue117
  t51 := Tryd.underlying137
  a51 := Tryd.isAgg137
  z51 := Tryd.sizeOf137
  v51 := Tryd.zeroValue137
  t53 := Tryd.underlying140
  a53 := Tryd.isAgg140
  z53 := Tryd.sizeOf140
  v53 := Tryd.zeroValue140
  t70 := Tryd.underlying54
  a70 := Tryd.isAgg54
  z70 := Tryd.sizeOf54
  v70 := Tryd.zeroValue54
  t72 := Tryd.underlying57
  a72 := Tryd.isAgg57
  z72 := Tryd.sizeOf57
  v72 := Tryd.zeroValue57
  t75 := Tryd.underlying59
  a75 := Tryd.isAgg59
  z75 := Tryd.sizeOf59
  v75 := Tryd.zeroValue59
  t76 := Tryd.underlying93
  a76 := Tryd.isAgg93
  z76 := Tryd.sizeOf93
  v76 := Tryd.zeroValue93
  t109 := Tryd.underlying118
  a109 := Tryd.isAgg118
  z109 := Tryd.sizeOf118
  v109 := Tryd.zeroValue118
  t127 := Tryd.underlying102
  a127 := Tryd.isAgg102
  z127 := Tryd.sizeOf102
  v127 := Tryd.zeroValue102
  t146 := Tryd.underlying138
  a146 := Tryd.isAgg138
  z146 := Tryd.sizeOf138
  v146 := Tryd.zeroValue138
  t148 := Tryd.underlying141
  a148 := Tryd.isAgg141
  z148 := Tryd.sizeOf141
  v148 := Tryd.zeroValue141
  t164 := Tryd.underlying131
  a164 := Tryd.isAgg131
  z164 := Tryd.sizeOf131
  v164 := Tryd.zeroValue131 }
theorem Tryd.repX : Go.Proofs.Builder.Extra Tryd.prog Tryd.rep_ren := { sizeBuilder := by kernel_rfl, liesBuilder := by kernel_rfl, t5 := Tryd.underlying5, a5 := Tryd.isAgg5, z5 := Tryd.sizeOf5, v5 := Tryd.zeroValue5, infoByte := by kernel_rfl, cellsByte := by kernel_rfl, sizeByte := by kernel_rfl, neB5 := of_decide_eq_true (by kernel_rfl) }
end Go.Proofs
namespace Go.Proofs.YtpcbjkjgjoemaaaDoor.S1
open Go Go.Ab Go.Proofs
/-- A function of the library that only computes. -/
theorem pureB [Lay] {f : Nat} {args : List D} {v : D} (ok : Callable PP f) [da : DS args] [dv : DD v] (h : ∀ (g : G) (w : World) (vs : List Value), Rs g args vs → ∃ x, R g v x ∧ Calls PP f vs.toArray w fun e w' => e = .returned x ∧ RowKit.Below w.heap.size w w') : Pure PP f args v :=
  ⟨ok, da.p, dv.p, fun g w vs _ sub hs => by
    obtain ⟨x, hx, hc⟩ := h g w vs hs
    refine hc.mono fun e w' ⟨he, hb⟩ => ⟨x, g.σ, he, R.mono ⟨fun _ _ h => h, fun _ _ h => h, fun _ k h => ⟨k, h, rfl, Nat.le_refl _, fun _ => rfl⟩⟩ _ _ hx, fun _ _ h => h, fun a y hy => ?_, fun _ _ h => .inl h, hb⟩
    obtain ⟨h1, h2⟩ := sub a y hy
    have hl : a.block < w.heap.size := World.block_lt_of_cell? w a h1
    exact ⟨(cell?_of_heap (hb.block _ hl)).trans h1, h2⟩⟩
theorem size_toArray (s : Str) : (⟨s.toArray⟩ : ByteArray).size = s.length := by show s.toArray.size = _; simp
theorem c20 [Lay] (s q : Str) (hs : s.length ≤ strM) (hq : q.length < 1000000) (ha : ∀ b ∈ q, b.toNat < 128) (hl : (Lib.trimS s q).length ≤ strM) : Pure PP 20 [.str s, .str q] (.str (Lib.trimS s q)) := by
  refine pureB ⟨Tryd.f20, by kernel_rfl, by kernel_rfl, by kernel_rfl⟩ fun g w vs h => ?_
  simp only [Rs, R] at h
  obtain ⟨_, _, rfl, ⟨rfl, _⟩, _, _, rfl, ⟨rfl, _⟩, rfl⟩ := h
  refine ⟨.string ⟨(Lib.trimS s q).toArray⟩, by simp only [R, true_and]; exact hl, ?_⟩
  exact Any.strings_Trim_laid Tryd.trm (by kernel_rfl) ⟨s.toArray⟩ ⟨q.toArray⟩ w (by rw [size_toArray]; exact hs) (by rw [size_toArray]; omega) (fun j b hb => ha b (List.mem_of_getElem? hb))
theorem c39 [Lay] (s : Str) (n : Nat) (hn : s.length * n ≤ 1000000) (h0 : n ≤ 1000000) : Pure PP 39 [.str s, I n] (.str (Lib.repeatL s n)) := by
  refine pureB ⟨Tryd.f39, by kernel_rfl, by kernel_rfl, by kernel_rfl⟩ fun g w vs h => ?_
  simp only [Rs, R] at h
  obtain ⟨_, _, rfl, ⟨rfl, _⟩, _, _, rfl, rfl, rfl⟩ := h
  refine ⟨.string ⟨(Lib.repeatL s n).toArray⟩, by simp only [R, true_and]; rw [Lib.repeatL_length, Nat.mul_comm]; unfold strM; omega, ?_⟩
  exact Any.strings_Repeat Tryd.rep Tryd.repX ⟨s.toArray⟩ n w (by omega) (by rw [size_toArray]; omega)
end Go.Proofs.YtpcbjkjgjoemaaaDoor.S1
/- Numbers drawn: the code's small functions. -/
namespace Go.Proofs.YtpcbjkjgjoemaaaDoor.S1
open Go Go.Ab Go.Proofs
instance {f : Nat} {ds : List D} [h : DS ds] : DD (.mv f ds) := ⟨h.p⟩
instance {t : Nat} {m : String} : DD (.fnp t m) := ⟨trivial⟩
theorem dw_nil {α : Type} (p : α → Bool) : ∀ l : List α, l.dropWhile p = [] ↔ ∀ b ∈ l, p b = true
  | [] => by simp
  | x :: r => by
    rw [List.dropWhile_cons]
    by_cases h : p x = true
    · rw [if_pos h, dw_nil p r]; simp [h]
    · rw [if_neg h]; simp [h]
theorem tw_mem {α : Type} (p : α → Bool) : ∀ (l : List α) (b : α), b ∈ l.takeWhile p → p b = true
  | [], _, h => by cases h
  | x :: r, b, h => by
    rw [List.takeWhile_cons] at h
    by_cases hx : p x = true
    · rw [if_pos hx] at h
      rcases List.mem_cons.1 h with rfl | h
      · exact hx
      · exact tw_mem p r b h
    · rw [if_neg hx] at h; cases h
theorem trim_all : ∀ (q : Str) (c : UInt8), Lib.trimS q [c] = [] ↔ ∀ b ∈ q, b = c := fun q c => by
  have key : ∀ (l : Str), (l.dropWhile fun b => ([c] : Str).contains b) = [] ↔ ∀ b ∈ l, b = c := fun l => by
    rw [dw_nil]
    exact ⟨fun h b hb => by have := h b hb; simpa using this, fun h b hb => by simpa using h b hb⟩
  unfold Lib.trimS Lib.trimLeftS Lib.trimRightS
  constructor
  · intro h b hb
    have h1 := (key _).1 h
    by_cases hd : b ∈ (q.reverse.dropWhile fun b => ([c] : Str).contains b)
    · exact h1 b (by simpa using hd)
    · have hb' : b ∈ q.reverse := by simpa using hb
      rw [← List.takeWhile_append_dropWhile (p := fun b => ([c] : Str).contains b) (l := q.reverse)] at hb'
      rcases List.mem_append.1 hb' with h2 | h2
      · have := tw_mem _ _ _ h2; simpa using this
      · exact absurd h2 hd
  · intro h
    have : (q.reverse.dropWhile fun b => ([c] : Str).contains b) = [] := (key _).2 fun b hb => h b (by simpa using hb)
    rw [this]; rfl
theorem trim_len (q r : Str) : (Lib.trimS q r).length ≤ q.length := by
  unfold Lib.trimS Lib.trimLeftS Lib.trimRightS
  have h1 := (List.dropWhile_sublist (fun b => r.contains b) (l := (q.reverse.dropWhile fun b => r.contains b).reverse)).length_le
  have h2 := (List.dropWhile_sublist (fun b => r.contains b) (l := q.reverse)).length_le
  rw [List.length_reverse] at h1 h2
  exact Nat.le_trans h1 h2
def sameR (q : Str) : UInt8 := if q.all (· == q.getD 0 0) then q.getD 0 0 else 0
theorem F24 : OkF 24 Tryd.f24 := ⟨by kernel_rfl, by kernel_rfl, by kernel_rfl⟩
def lv24 : List (List Nat × List Nat) := []
noncomputable def nsms (q : Str) : List Nat → Nat → Option Ans := scrAt [([1, 0, 0], 3, Ans.pure [.str q, .str (List.drop 0 (List.take 1 q))] (.str (Lib.trimS q (List.drop 0 (List.take 1 q)))))]
theorem nsm [Lay] (q : Str) (K : D → Prop) : runS (En Tryd.f24) (fi Tryd.f24 K) (nsms q) lv24 200 [.code []] ⟨argSlots 0 [.str q], .empty⟩ =
  (((0 : Int) ≤ 0 ∧ (0 : Int) ≤ 1 ∧ 1 ≤ (↑(List.length q) : Int)) ∧ PureW PP 20 [.str q, .str (List.drop 0 (List.take 1 q))] [.str q, .str (List.drop 0 (List.take 1 q))] (.str (Lib.trimS q (List.drop 0 (List.take 1 q)))) ∧ bif !Lib.trimS q (List.drop 0 (List.take 1 q)) == { data := #[] : ByteArray }.data.toList then K (D.int IntKind.u8 0) else ((0 : Int) ≤ 0 ∧ 0 < (↑(List.length q) : Int)) ∧ K (D.int IntKind.u8 (↑(List.getD q 0 0).toNat : Int))) := by kernel_rfl
theorem c24 [Lay] (q : Str) (h0 : 0 < q.length) (hl : q.length ≤ 1000000) (ha : ∀ b ∈ q, b.toNat < 128) : Pure PP 24 [.str q] (encB (sameR q)) := by
  have e1 : (q.take 1).drop 0 = [q.getD 0 0] := by
    cases q with
    | nil => simp at h0
    | cons x r => rfl
  have hm : q.getD 0 0 ∈ q := by
    cases q with
    | nil => simp at h0
    | cons x r => simp
  have hlen := trim_len q [q.getD 0 0]
  refine pu F24 (by kernel_rfl) (of_eq (nsm q _) ⟨⟨by omega, by omega, by omega⟩, PureW.mk (c20 _ _ (by unfold strM; omega) (by rw [e1]; simp) (fun b hb => by rw [e1] at hb; simp at hb; subst hb; exact ha _ hm) (by rw [e1]; unfold strM; omega)), ?_⟩)
  rw [e1]
  have hc := trim_all q (q.getD 0 0)
  have he : ({ data := #[] } : ByteArray).data.toList = ([] : Str) := rfl
  rw [he]
  refine cond_intro (fun h => ?_) fun h => ⟨⟨by omega, by omega⟩, ?_⟩
  · have : sameR q = 0 := by
      unfold sameR
      rw [if_neg]
      intro h2
      simp only [List.all_eq_true, beq_iff_eq] at h2
      rw [hc.2 h2] at h; simp at h
    rw [this]; exact Wk.refl _
  · have : sameR q = q.getD 0 0 := by
      unfold sameR
      rw [if_pos]
      simp only [List.all_eq_true, beq_iff_eq]
      refine hc.1 ?_
      simpa using h
    rw [this]; exact Wk.refl _
theorem F22 : OkF 22 Tryd.f22 := ⟨by kernel_rfl, by kernel_rfl, by kernel_rfl⟩
def lv22 : List (List Nat × List Nat) := [([1, 1, 1, 0, 1, 0], [4, 17, 18, 19])]
noncomputable def ngrs (q : Str) : List Nat → Nat → Option Ans := scrAt [([1, 0, 0], 1, Ans.pure [.str q] (encB (sameR q)))]
theorem ngr [Lay] (q : Str) (K : D → Prop) : runS (En Tryd.f22) (fi Tryd.f22 K) (ngrs q) lv22 200 [.code []] ⟨argSlots 0 [.str q], .empty⟩ =
  (PureW PP 24 [.str q] [.str q] (encB (sameR q)) ∧ bif bif (↑(sameR q).toNat : Int) == 120 then true else (↑(sameR q).toNat : Int) == 122 then K (D.int IntKind.u8 (↑(sameR q).toNat : Int)) else List.length q ≤ lenM → At (En Tryd.f22) (fi Tryd.f22 K) [It.code [1, 1, 1, 0, 1, 0], It.blk 0, It.code [1, 1, 1, 1]] { sl := [(4, I 0), (17, .list (List.length q) 1 (strG q) .none), (18, I (↑(List.length q) : Int)), (19, I 0)], h := Heap.empty : St }) := by kernel_rfl
def Sgr (q : Str) (n i : Int) : St := ⟨[(4, I n), (17, L q 1 encB), (18, I q.length), (19, I i)], .empty⟩
noncomputable def ngras  : List Nat → Nat → Option Ans := scrAt []
theorem ngra [Lay] (q : Str) (n i : Int) (J : St → Prop) (K : D → Prop) : runS (En Tryd.f22) (fi Tryd.f22 K) (ngras ) lv22 200 [.code [1, 1, 1, 0, 1, 0, 0], stp [4, 17, 18, 19] J, .blk 0, .code [1, 1, 1, 1]] (Sgr q n i) =
  (bif decide (i < (↑(List.length q) : Int)) then (0 ≤ i ∧ i < (↑(List.length q) : Int)) ∧ bif bif (↑(List.getD q i.toNat default).toNat : Int) != 48 then (↑(List.getD q i.toNat default).toNat : Int) != 49 else false then K (D.int IntKind.u8 88) else J { sl := [(4, I (addI .i64 (mulI .i64 2 n) (IntKind.i64.wrap (subI IntKind.u8 (↑(List.getD q i.toNat default).toNat : Int) 48)))), (17, L q 1 encB), (18, I (↑(List.length q) : Int)), (19, I (addI .i64 i 1))], h := Heap.empty : St } else (0 ≤ n ∧ n < (↑16 : Int)) ∧ K (D.int IntKind.u8 (↑({ data := #[48, 49, 50, 51, 52, 53, 54, 55, 56, 57, 97, 98, 99, 100, 101, 102] : ByteArray }.data.toList.getD n.toNat 0).toNat : Int))) := by kernel_rfl
def figs : Str := [48, 49, 50, 51, 52, 53, 54, 55, 56, 57, 97, 98, 99, 100, 101, 102]
def bit01 (b : UInt8) : Bool := b == 48 || b == 49
/-- Bits as a number. -/
def dig48 (b : UInt8) : Nat := b.toNat - 48
def bstep (n : Nat) (b : UInt8) : Nat := 2 * n + dig48 b
def binF (n : Nat) (q : Str) : Nat := q.foldl bstep n
theorem binF_cons (n : Nat) (b : UInt8) (r : Str) : binF n (b :: r) = binF (2 * n + dig48 b) r := by
  unfold binF
  rw [List.foldl_cons, bstep]
theorem binF_nil (n : Nat) : binF n [] = n := by
  unfold binF
  rw [List.foldl_nil]
def groupR (q : Str) : UInt8 := if sameR q = 120 ∨ sameR q = 122 then sameR q else if q.all bit01 then figs.getD (binF 0 q) 0 else 88
theorem ne48 (b : UInt8) : (bif ((b.toNat : Int) != 48) then ((b.toNat : Int) != 49) else false) = !bit01 b := by
  have h1 : ((b.toNat : Int) != 48) = !(b == 48) := by
    rw [Bool.eq_iff_iff]; simp [← UInt8.toNat_inj]; omega
  have h2 : ((b.toNat : Int) != 49) = !(b == 49) := by
    rw [Bool.eq_iff_iff]; simp [← UInt8.toNat_inj]; omega
  rw [h1, h2]
  unfold bit01
  cases b == 48 <;> rfl
theorem sub48 (b : UInt8) (h : bit01 b = true) : IntKind.i64.wrap (subI .u8 (b.toNat : Int) 48) = (dig48 b : Int) := by
  simp only [bit01, Bool.or_eq_true, beq_iff_eq] at h
  rcases h with rfl | rfl <;> decide
theorem c22 [Lay] (q : Str) (h0 : 0 < q.length) (hl : q.length ≤ 4) (ha : ∀ b ∈ q, b.toNat < 128) : Pure PP 22 [.str q] (encB (groupR q)) := by
  refine pu F22 (by kernel_rfl) (of_eq (ngr q _) ⟨PureW.mk (c24 q h0 (by omega) ha), cond_intro (fun h => ?_) fun h => fun hlm => ?_⟩)
  · have : sameR q = 120 ∨ sameR q = 122 := by
      rw [← UInt8.toNat_inj, ← UInt8.toNat_inj]
      cases hb : ((sameR q).toNat : Int) == 120 with
      | true => have := eq_of_beq hb; left; show (sameR q).toNat = 120; omega
      | false => rw [hb] at h; have := eq_of_beq h; right; show (sameR q).toNat = 122; omega
    rw [groupR, if_pos this]; exact Wk.refl _
  have hn : ¬ (sameR q = 120 ∨ sameR q = 122) := by
    rintro (e | e) <;> rw [e] at h <;> exact Bool.noConfusion h
  rw [groupR, if_neg hn]
  refine at_le (st' := Sgr q (0 : Nat) (0 : Nat)) ?_ ((StLe.refl _ _).cast (by kernel_rfl))
  refine lp (fn := Tryd.f22) (fun z : Nat × Nat => z.1 ≤ q.length ∧ z.2 < 2 ^ z.1 ∧ q.all bit01 = (q.drop z.1).all bit01 ∧ binF 0 q = binF z.2 (q.drop z.1)) (fun z => Sgr q z.2 z.1) (fun z => q.length - z.1) [4, 17, 18, 19] (by kernel_rfl) (fun z hz => of_eq (ngra q z.2 z.1 _ _) ?_) (0, 0) ⟨Nat.zero_le _, by decide, rfl, rfl⟩
  obtain ⟨i, m⟩ := z
  obtain ⟨hi, hm, e1, e2⟩ := hz
  simp only at hi hm e1 e2 ⊢
  have hm16 : m < 16 := Nat.lt_of_lt_of_le hm (by
    have : 2 ^ i ≤ 2 ^ 4 := Nat.pow_le_pow_right (by decide) (by omega)
    simpa using this)
  refine cond_intro (fun hlt => ?_) fun hge => ?_
  · have hlt := ltI hlt
    rw [add1 hlt hlm, Int.toNat_natCast, ne48]
    rw [drop_cons _ _ hlt] at e1 e2
    simp only [List.all_cons, binF_cons] at e1 e2
    generalize q.getD i default = b at e1 e2 ⊢
    refine ⟨⟨by omega, by omega⟩, cond_intro (fun h => ?_) fun h => ?_⟩
    · have hb : bit01 b = false := by simpa using h
      rw [hb, Bool.false_and] at e1
      rw [if_neg (by rw [e1]; simp)]
      exact Wk.refl _
    · have hb : bit01 b = true := by simpa using h
      rw [hb, Bool.true_and] at e1
      have hb1 : dig48 b ≤ 1 := by
        simp only [bit01, Bool.or_eq_true, beq_iff_eq] at hb
        rcases hb with rfl | rfl <;> decide
      have hmul : mulI .i64 2 (m : Int) = ((2 * m : Nat) : Int) := by
        unfold mulI
        rw [IntWalk.i64_in _ ⟨by omega, by omega⟩]; omega
      rw [sub48 b hb, hmul]
      generalize dig48 b = c at e2 hb1 ⊢
      have hs : addI .i64 ((2 * m : Nat) : Int) (c : Int) = ((2 * m + c : Nat) : Int) := by
        rw [add64 (by omega) (by omega)]; omega
      rw [hs]
      refine Nx.mk (i + 1, 2 * m + c) ⟨hlt, ?_, e1, e2⟩ (by simp only; omega)
      simp only
      rw [Nat.pow_succ]; omega
  · have hl' := geI hge
    rw [List.drop_of_length_le hl'] at e1 e2
    have e1 : q.all bit01 = true := e1.trans rfl
    rw [binF_nil] at e2
    rw [if_pos e1, e2]
    refine ⟨⟨by omega, by show (m : Int) < 16; omega⟩, ?_⟩
    rw [Int.toNat_natCast]
    exact Wk.refl _
end Go.Proofs.YtpcbjkjgjoemaaaDoor.S1
/- A number in decimal: the code's function. -/
namespace Go.Proofs.YtpcbjkjgjoemaaaDoor.S1
open Go Go.Ab Go.Proofs
instance : RO .nili := ⟨trivial⟩
instance : RO .nilp := ⟨trivial⟩
/-- A byte written, whatever number it is. -/
theorem WBz [Lay] (a : D) (ha : a = .nilp ∨ a = .bp 0 0) (es : Str) (z : Int) (hz : 0 ≤ z ∧ z < 256) (hl : es.length ≤ 1000000000) : Does PP 21 [.bp 0 0, .int .u8 z] (hSb a es) .nili (hSb (.bp 0 0) (es ++ [UInt8.ofNat z.toNat])) := by
  have h := e21 a ha es (UInt8.ofNat z.toNat) hl
  have : encB (UInt8.ofNat z.toNat) = .int .u8 z := by
    unfold encB
    congr 1
    rw [UInt8.toNat_ofNat']
    omega
  rw [this] at h
  exact h
theorem F25 : OkF 25 Tryd.f25 := ⟨by kernel_rfl, by kernel_rfl, by kernel_rfl⟩
def lv25 : List (List Nat × List Nat) := [([1, 1, 0, 1, 0], [3, 13, 14, 15]), ([1, 1, 0, 1, 0, 0, 1, 1, 0, 0, 1, 1, 0, 1, 0], [3, 6, 13, 14, 15, 23, 24]), ([1, 1, 1, 1, 0, 1, 0], [3, 9, 10])]
noncomputable def ndcs  : List Nat → Nat → Option Ans := scrAt []
theorem ndc [Lay] (q : Str) (K : D → Heap → Prop) : runS (EnV [9] [11] Tryd.f25) (fh Tryd.f25 K) (ndcs ) lv25 200 [.code []] ⟨argSlots 0 [.str q], .empty⟩ =
  (True ∧ (List.length q ≤ lenM → At (EnV [9] [11] Tryd.f25) (fh Tryd.f25 K) [It.code [1, 1, 0, 1, 0], It.blk 0, It.code [1, 1, 1]] { sl := [(3, D.vec 0 1 1), (13, .list (List.length q) 1 (strG q) .none), (14, I (↑(List.length q) : Int)), (15, I 0)], h := { box := fun _ => none, nl := 0, hw := upd (fun _ => none) 0 (some 1), nt := 1, vw := upd (fun _ => none) 0 (some (litG [D.int IntKind.u8 0])) : Heap } : St })) := by kernel_rfl
def Sdc (q ds : Str) (i : Int) : St := ⟨[(3, .vec 0 ds.length 1), (13, L q 1 encB), (14, I q.length), (15, I i)], hVec ds encB⟩
noncomputable def ndcas  : List Nat → Nat → Option Ans := scrAt []
theorem ndca [Lay] (q ds : Str) (i : Int) (J : St → Prop) (K : D → Heap → Prop) : runS (EnV [9] [11] Tryd.f25) (fh Tryd.f25 K) (ndcas ) lv25 200 [.code [1, 1, 0, 1, 0, 0], stp [3, 13, 14, 15] J, .blk 0, .code [1, 1, 1]] (Sdc q ds i) =
  (bif decide (i < (↑(List.length q) : Int)) then (0 ≤ i ∧ i < (↑(List.length q) : Int)) ∧ (List.length ds ≤ lenM → At (EnV [9] [11] Tryd.f25) (fh Tryd.f25 K) [It.code [1, 1, 0, 1, 0, 0, 1, 1, 0, 0, 1, 1, 0, 1, 0], It.blk 2, It.code [1, 1, 0, 1, 0, 0, 1, 1, 0, 0, 1, 1, 1], It.blk 1, It.code [1, 1, 0, 1, 0, 0, 1, 1, 1], stp [3, 13, 14, 15] J, It.blk 0, It.code [1, 1, 1]] { sl := [(3, D.vec 0 (List.length ds) 1), (6, I (IntKind.i64.wrap (subI IntKind.u8 (↑(List.getD q i.toNat default).toNat : Int) 48))), (13, L q 1 encB), (14, I (↑(List.length q) : Int)), (15, I i), (23, I (↑(List.length ds) : Int)), (24, I 0)], h := { box := fun _ => none, nl := 0, hw := upd (fun _ => none) 0 (some (List.length ds)), nt := 1, vw := upd (fun _ => none) 0 (some (cv ds encB)) : Heap } : St }) else True ∧ (List.length ds ≤ lenM → At (EnV [9] [11] Tryd.f25) (fh Tryd.f25 K) [It.code [1, 1, 1, 1, 0, 1, 0], It.blk 4, It.code [1, 1, 1, 1, 1]] { sl := [(3, D.vec 0 (List.length ds) 1), (9, D.bp 0 0), (10, I (subI .i64 (↑(List.length ds) : Int) 1))], h := { box := upd (fun _ => none) 0 (some (Row.litT 57 [D.nilp, .list 0 0 (fun _ => D.junk) .full])), nl := 1, hw := upd (fun _ => none) 0 (some (List.length ds)), nt := 1, vw := upd (fun _ => none) 0 (some (cv ds encB)) : Heap } : St })) := by kernel_rfl
def Sdd (q ds : Str) (i c j : Int) : St := ⟨[(3, .vec 0 ds.length 1), (6, I c), (13, L q 1 encB), (14, I q.length), (15, I i), (23, I ds.length), (24, I j)], hVec ds encB⟩
noncomputable def ndcbs  : List Nat → Nat → Option Ans := scrAt []
theorem ndcb [Lay] (q ds : Str) (i c j : Int) (J J2 : St → Prop) (K : D → Heap → Prop) : runS (EnV [9] [11] Tryd.f25) (fh Tryd.f25 K) (ndcbs ) lv25 200 [.code [1, 1, 0, 1, 0, 0, 1, 1, 0, 0, 1, 1, 0, 1, 0, 0], stp [3, 6, 13, 14, 15, 23, 24] J, .blk 2, .code [1, 1, 0, 1, 0, 0, 1, 1, 0, 0, 1, 1, 1], .blk 1, .code [1, 1, 0, 1, 0, 0, 1, 1, 1], stp [3, 13, 14, 15] J2, .blk 0, .code [1, 1, 1]] (Sdd q ds i c j) =
  (bif decide (j < (↑(List.length ds) : Int)) then (upd (fun _ => none) 0 (some (List.length ds)) 0 = some (List.length ds) ∧ 0 ≤ j ∧ j < (↑(List.length ds) : Int)) ∧ upd (fun _ => none) 0 (some (List.length ds)) 0 = some (List.length ds) ∧ (10 : Int) ≠ 0 ∧ (10 : Int) ≠ 0 ∧ (upd (fun _ => none) 0 (some (List.length ds)) 0 = some (List.length ds) ∧ 0 ≤ j ∧ j < (↑(List.length ds) : Int)) ∧ upd (fun _ => none) 0 (some (List.length ds)) 0 = some (List.length ds) ∧ J { sl := [(3, D.vec 0 (List.length ds) 1), (6, I (quoI .i64 (addI .i64 (mulI .i64 2 (IntKind.i64.wrap (↑(List.getD ds j.toNat default).toNat : Int))) c) 10)), (13, L q 1 encB), (14, I (↑(List.length q) : Int)), (15, I i), (23, I (↑(List.length ds) : Int)), (24, I (addI .i64 j 1))], h := { box := fun _ => none, nl := 0, hw := upd (fun _ => none) 0 (some (List.length ds)), nt := 1, vw := upd (upd (fun _ => none) 0 (some (cv ds encB))) 0 (some (setG (cv ds encB) j.toNat (D.int IntKind.u8 (IntKind.u8.wrap ((addI .i64 (mulI .i64 2 (IntKind.i64.wrap (↑(List.getD ds j.toNat default).toNat : Int))) c).tmod 10))))) : Heap } : St }
 else bif decide (c > 0) then (upd (fun _ => none) 0 (some (List.length ds)) 0 = some (List.length ds) ∧ (List.length ds + 1) * 1 ≤ roomM) ∧ J2 { sl := [(3, D.vec 0 (List.length ds + 1) 1), (13, L q 1 encB), (14, I (↑(List.length q) : Int)), (15, I (addI .i64 i 1))], h := { box := fun _ => none, nl := 0, hw := upd (upd (fun _ => none) 0 (some (List.length ds))) 0 (some (List.length ds + 1)), nt := 1, vw := upd (upd (fun _ => none) 0 (some (cv ds encB))) 0 (some (catG (List.length ds) (cv ds encB) (litG [D.int IntKind.u8 (IntKind.u8.wrap c)]))) : Heap } : St } else J2 { sl := [(3, D.vec 0 (List.length ds) 1), (13, L q 1 encB), (14, I (↑(List.length q) : Int)), (15, I (addI .i64 i 1))], h := { box := fun _ => none, nl := 0, hw := upd (fun _ => none) 0 (some (List.length ds)), nt := 1, vw := upd (fun _ => none) 0 (some (cv ds encB)) : Heap } : St }) := by kernel_rfl
/-- The digits, and the text so far. -/
def hDc (ds : Str) (a : D) (es : Str) : Heap := ⟨upd (fun _ => none) 0 (some (.litT TB [a, .bv TU 1 es.length])), 1, upd (upd (fun _ => none) 0 (some ds.length)) 1 (some es.length), 2, upd (upd (fun _ => none) 0 (some (cv ds encB))) 1 (some (cv es encB))⟩
def Sde (ds : Str) (a : D) (es : Str) (i : Int) : St := ⟨[(3, .vec 0 ds.length 1), (9, .bp 0 0), (10, I i)], hDc ds a es⟩
noncomputable def ndccs (ds : Str) (a : D) (es : Str) (i : Int) : List Nat → Nat → Option Ans := scrAt [([1, 1, 1, 1, 0, 1, 0, 0, 1, 0, 0], 5, Ans.eff (ren (rnm [0] 1) (rnm [1] 2) D.nili) (frameH [0] [1] { box := upd (fun _ => none) 0 (some (Row.litT TB [a, D.bv TU 1 (List.length es)])), nl := 1, hw := upd (upd (fun _ => none) 0 (some (List.length ds))) 1 (some (List.length es)), nt := 2, vw := upd (upd (fun _ => none) 0 (some (cv ds encB))) 1 (some (cv es encB)) : Heap } (hSb (D.bp 0 0) (es ++ [UInt8.ofNat (addI IntKind.u8 48 (↑(List.getD ds i.toNat default).toNat : Int)).toNat])))), ([1, 1, 1, 1, 1, 0], 0, Ans.eff (ren (rnm [0] 1) (rnm [1] 2) (.str es)) (frameH [0] [1] { box := upd (fun _ => none) 0 (some (Row.litT TB [a, D.bv TU 1 (List.length es)])), nl := 1, hw := upd (upd (fun _ => none) 0 (some (List.length ds))) 1 (some (List.length es)), nt := 2, vw := upd (upd (fun _ => none) 0 (some (cv ds encB))) 1 (some (cv es encB)) : Heap } h11))]
theorem ndcc [Lay] (ds : Str) (a : D) (es : Str) (i : Int) (J : St → Prop) (K : D → Heap → Prop) : runS (EnV [9] [11] Tryd.f25) (fh Tryd.f25 K) (ndccs ds a es i) lv25 200 [.code [1, 1, 1, 1, 0, 1, 0, 0], stp [3, 9, 10] J, .blk 4, .code [1, 1, 1, 1, 1]] (Sde ds a es i) =
  (bif decide (i ≥ 0) then (upd (upd (fun _ => none) 0 (some (List.length ds))) 1 (some (List.length es)) 0 = some (List.length ds) ∧ 0 ≤ i ∧ i < (↑(List.length ds) : Int)) ∧ upd (upd (fun _ => none) 0 (some (List.length ds))) 1 (some (List.length es)) 0 = some (List.length ds) ∧ Does PP 21 [D.bp 0 0, D.int IntKind.u8 (addI IntKind.u8 48 (↑(List.getD ds i.toNat default).toNat : Int))] { box := upd (fun _ => none) 0 (some (Row.litT TB [a, D.bv TU 1 (List.length es)])), nl := 1, hw := upd (upd (fun _ => none) 0 (some (List.length ds))) 1 (some (List.length es)), nt := 2, vw := upd (upd (fun _ => none) 0 (some (cv ds encB))) 1 (some (cv es encB)) : Heap } (ren (rnm [0] 1) (rnm [1] 2) D.nili) (frameH [0] [1] { box := upd (fun _ => none) 0 (some (Row.litT TB [a, D.bv TU 1 (List.length es)])), nl := 1, hw := upd (upd (fun _ => none) 0 (some (List.length ds))) 1 (some (List.length es)), nt := 2, vw := upd (upd (fun _ => none) 0 (some (cv ds encB))) 1 (some (cv es encB)) : Heap } (hSb (D.bp 0 0) (es ++ [UInt8.ofNat (addI IntKind.u8 48 (↑(List.getD ds i.toNat default).toNat : Int)).toNat]))) ∧ J { sl := [(3, D.vec 0 (List.length ds) 1), (9, D.bp 0 0), (10, I (subI .i64 i 1))], h := { box := upd (upd (fun _ => none) 0 (some (Row.litT TB [a, D.bv TU 1 (List.length es)]))) 0 (some (Row.litT TB [D.bp 0 0, D.bv TU 1 (List.length (es ++ [UInt8.ofNat (addI IntKind.u8 48 (↑(List.getD ds i.toNat default).toNat : Int)).toNat]))])), nl := 1, hw := upd (upd (upd (fun _ => none) 0 (some (List.length ds))) 1 (some (List.length es))) 1 (some (List.length (es ++ [UInt8.ofNat (addI IntKind.u8 48 (↑(List.getD ds i.toNat default).toNat : Int)).toNat]))), nt := 2, vw := upd (upd (upd (fun _ => none) 0 (some (cv ds encB))) 1 (some (cv es encB))) 1 (some (cv (es ++ [UInt8.ofNat (addI IntKind.u8 48 (↑(List.getD ds i.toNat default).toNat : Int)).toNat]) encB)) : Heap } : St }
 else Does PP 23 [D.bp 0 0] { box := upd (fun _ => none) 0 (some (Row.litT TB [a, D.bv TU 1 (List.length es)])), nl := 1, hw := upd (upd (fun _ => none) 0 (some (List.length ds))) 1 (some (List.length es)), nt := 2, vw := upd (upd (fun _ => none) 0 (some (cv ds encB))) 1 (some (cv es encB)) : Heap } (ren (rnm [0] 1) (rnm [1] 2) (.str es)) (frameH [0] [1] { box := upd (fun _ => none) 0 (some (Row.litT TB [a, D.bv TU 1 (List.length es)])), nl := 1, hw := upd (upd (fun _ => none) 0 (some (List.length ds))) 1 (some (List.length es)), nt := 2, vw := upd (upd (fun _ => none) 0 (some (cv ds encB))) 1 (some (cv es encB)) : Heap } h11) ∧ K (.str es) { box := upd (upd (fun _ => none) 0 (some (Row.litT TB [a, D.bv TU 1 (List.length es)]))) 0 none, nl := 1, hw := upd (upd (upd (fun _ => none) 0 (some (List.length ds))) 1 (some (List.length es))) 1 none, nt := 2, vw := upd (upd (upd (fun _ => none) 0 (some (cv ds encB))) 1 (some (cv es encB))) 1 none : Heap }) := by kernel_rfl
/-- A digit doubled, and the carry. -/
def dg (d : UInt8) (c : Nat) : Nat := 2 * d.toNat + c
def dgB (n : Nat) : UInt8 := UInt8.ofNat (n % 10)
def dblR : Str → Nat → Str × Nat
  | [], c => ([], c)
  | d :: r, c => (dgB (dg d c) :: (dblR r (dg d c / 10)).1, (dblR r (dg d c / 10)).2)
def addC (p : Str × Nat) : Str := if 0 < p.2 then p.1 ++ [UInt8.ofNat p.2] else p.1
def digR : Str → Str → Str
  | [], ds => ds
  | b :: r, ds => digR r (addC (dblR ds (dig48 b)))
def txtB (d : UInt8) : UInt8 := UInt8.ofNat (48 + d.toNat)
def txtR (ds : Str) : Str := ds.reverse.map txtB
def decR (q : Str) : Str := txtR (digR q [0])
def dgs (ds : Str) : Prop := ∀ d ∈ ds, d.toNat < 10
theorem dgB_toNat (n : Nat) : (dgB n).toNat = n % 10 := by
  unfold dgB
  rw [UInt8.toNat_ofNat']
  omega
theorem dblR_cons (d : UInt8) (r : Str) (c : Nat) : dblR (d :: r) c = (dgB (dg d c) :: (dblR r (dg d c / 10)).1, (dblR r (dg d c / 10)).2) := by rw [dblR]
theorem dblR_len : ∀ (ds : Str) (c : Nat), (dblR ds c).1.length = ds.length
  | [], _ => by rw [dblR]
  | d :: r, c => by rw [dblR_cons]; simp [dblR_len r]
theorem dblR_dgs : ∀ (ds : Str) (c : Nat), dgs (dblR ds c).1
  | [], _ => by rw [dblR]; intro d h; cases h
  | d :: r, c => by
    rw [dblR_cons]
    intro x hx
    rcases List.mem_cons.1 hx with rfl | hx
    · rw [dgB_toNat]; omega
    · exact dblR_dgs r _ x hx
theorem dblR_carry : ∀ (ds : Str) (c : Nat), dgs ds → c ≤ 1 → (dblR ds c).2 ≤ 1
  | [], _, _, h => by rw [dblR]; exact h
  | d :: r, c, hd, h => by
    rw [dblR_cons]
    refine dblR_carry r _ (fun x hx => hd x (List.mem_cons_of_mem _ hx)) ?_
    have := hd d (List.mem_cons_self ..)
    unfold dg; omega
theorem addC_len (p : Str × Nat) : (addC p).length ≤ p.1.length + 1 := by
  unfold addC
  split
  · simp
  · omega
theorem addC_dgs (ds : Str) (c : Nat) (hd : dgs ds) (h : c ≤ 1) : dgs (addC (dblR ds c)) := by
  have h1 := dblR_dgs ds c
  have h2 := dblR_carry ds c hd h
  unfold addC
  split
  · intro x hx
    rcases List.mem_append.1 hx with hx | hx
    · exact h1 x hx
    · rw [List.mem_singleton.1 hx, UInt8.toNat_ofNat']; omega
  · exact h1
theorem dig_le {b : UInt8} (h : bit01 b = true) : dig48 b ≤ 1 := by
  simp only [bit01, Bool.or_eq_true, beq_iff_eq] at h
  rcases h with rfl | rfl <;> decide
/-- The digit's step, as the machine does it. -/
theorem step_n (d : UInt8) (c : Nat) (hd : d.toNat < 10) (hc : c ≤ 1) : addI .i64 (mulI .i64 2 (IntKind.i64.wrap (d.toNat : Int))) (c : Int) = ((dg d c : Nat) : Int) := by
  rw [IntWalk.i64_in _ ⟨by omega, by omega⟩]
  unfold mulI
  rw [IntWalk.i64_in _ ⟨by omega, by omega⟩, add64 (by omega) (by omega)]
  unfold dg; omega
theorem step_q (n : Nat) (h : n ≤ 100) : quoI .i64 (n : Int) 10 = ((n / 10 : Nat) : Int) := by
  unfold quoI
  have : ((n : Int)).tdiv 10 = ((n / 10 : Nat) : Int) := rfl
  rw [this, IntWalk.i64_in _ ⟨by omega, by omega⟩]
theorem step_r (n : Nat) : D.int .u8 (IntKind.u8.wrap (((n : Int)).tmod 10)) = encB (dgB n) := by
  have : ((n : Int)).tmod 10 = ((n % 10 : Nat) : Int) := rfl
  rw [this, IntWalk.u8_in _ ⟨by omega, by omega⟩]
  unfold encB
  rw [dgB_toNat]
theorem add48 (d : UInt8) (h : d.toNat < 10) : addI .u8 48 (d.toNat : Int) = ((48 + d.toNat : Nat) : Int) := by
  unfold addI
  rw [IntWalk.u8_in _ ⟨by omega, by omega⟩]; omega
theorem c25 [Lay] (q : Str) (hq : q.all bit01 = true) (hl : q.length ≤ 1000) : Pure PP 25 [.str q] (.str (decR q)) := by
  refine pr F25 (by kernel_rfl) (of_eq (ndc q _) ⟨trivial, fun hlm => ?_⟩)
  refine at_le (st' := Sdc q [0] (0 : Nat)) ?_ ((StLe.vec (t := 0) (n := 1) (f' := cv ([0] : Str) encB) rfl fun j hj => by
    have : j = 0 := by omega
    subst this; rfl).cast rfl)
  refine lp (fn := Tryd.f25) (fun z : Nat × Str => z.1 ≤ q.length ∧ z.2.length ≤ z.1 + 1 ∧ 0 < z.2.length ∧ dgs z.2 ∧ digR q [0] = digR (q.drop z.1) z.2) (fun z => Sdc q z.2 z.1) (fun z => q.length - z.1) [3, 13, 14, 15] (by kernel_rfl) (fun z hz => of_eq (ndca q z.2 z.1 _ _) ?_) (0, [0]) ⟨Nat.zero_le _, by decide, by decide, by intro d h; rw [List.mem_singleton.1 h]; decide, rfl⟩
  obtain ⟨i, ds⟩ := z
  obtain ⟨hi, hdl, hd0, hdg, he⟩ := hz
  simp only at hi hdl hd0 hdg he ⊢
  refine cond_intro (fun hlt => ?_) fun hge => ?_
  · have hlt := ltI hlt
    rw [Int.toNat_natCast]
    rw [drop_cons _ _ hlt] at he
    have hb : bit01 (q.getD i default) = true := by
      rw [List.all_eq_true] at hq
      exact hq _ (by simp [List.getD, List.getElem?_eq_getElem hlt])
    generalize q.getD i default = b at he hb ⊢
    rw [digR] at he
    rw [sub48 b hb]
    refine ⟨⟨by omega, by omega⟩, fun hdm => ?_⟩
    have hc1 := dig_le hb
    generalize hc : dig48 b = c0 at he hc1 ⊢
    refine at_le (st' := Sdd q ds i c0 (0 : Nat)) ?_ ((StLe.refl _ _).cast (by kernel_rfl))
    refine lp (fn := Tryd.f25) (fun z : Nat × Str × Nat => z.1 ≤ ds.length ∧ z.2.1.length = ds.length ∧ z.2.2 ≤ 1 ∧ dgs z.2.1 ∧ dblR ds c0 = (z.2.1.take z.1 ++ (dblR (z.2.1.drop z.1) z.2.2).1, (dblR (z.2.1.drop z.1) z.2.2).2)) (fun z => Sdd q z.2.1 i z.2.2 z.1) (fun z => ds.length - z.1) [3, 6, 13, 14, 15, 23, 24] (by kernel_rfl) (fun z hz => of_eq (ndcb q z.2.1 i z.2.2 z.1 _ _ _) ?_) (0, ds, c0) ⟨Nat.zero_le _, rfl, hc1, hdg, by simp⟩
    obtain ⟨j, es, c⟩ := z
    obtain ⟨hj, hel, hcc, heg, hde⟩ := hz
    simp only at hj hel hcc heg hde ⊢
    have hw0 : ∀ n : Nat, upd (fun _ => (none : Option Nat)) 0 (some n) 0 = some n := fun n => upd_same _ _ _
    refine cond_intro (fun hlt2 => ?_) fun hge2 => ?_
    · have hlt2 := ltI hlt2
      rw [Int.toNat_natCast]
      have hdj : (es.getD j default).toNat < 10 := heg _ (by simp [List.getD, List.getElem?_eq_getElem hlt2])
      rw [drop_cons _ _ hlt2, dblR_cons] at hde
      rw [step_n _ _ hdj hcc]
      have hn19 : dg (es.getD j default) c ≤ 19 := by unfold dg; omega
      rw [step_q _ (by omega), step_r, add1 hlt2 (by omega)]
      have hin : (0 : Int) ≤ (j : Int) ∧ (j : Int) < (es.length : Int) := ⟨by omega, by omega⟩
      refine ⟨⟨hw0 _, hin⟩, hw0 _, by decide, by decide, ⟨hw0 _, hin⟩, hw0 _, ?_⟩
      refine Nx.of (j + 1, es.set j (dgB (dg (es.getD j default) c)), dg (es.getD j default) c / 10) ⟨by simp only; omega, by simp only [List.length_set]; exact hel, by simp only; omega, ?_, ?_⟩ (by simp only; omega) ?_
      · intro x hx
        rcases List.mem_or_eq_of_mem_set hx with h | h
        · exact heg x h
        · rw [h, dgB_toNat]; omega
      · simp only
        rw [List.drop_set_of_lt (by omega), List.take_set, hde]
        have : (es.take (j + 1)).set j (dgB (dg (es.getD j default) c)) = es.take j ++ [dgB (dg (es.getD j default) c)] := by
          rw [take_snoc _ _ hlt2, List.set_append_right _ _ (by simp; omega)]
          simp [Nat.min_eq_left (Nat.le_of_lt hlt2)]
        rw [this]
        simp
      · simp only [Sdd, hVec, List.length_set]
        rw [upd_upd]
        exact StLe.vec (t := 0) (n := es.length) (upd_same _ _ _) fun k _ => cv_set (enc := encB) (k := j) (x := dgB (dg (es.getD j default) c)) hlt2 k
    · have hge2 : es.length ≤ j := geI hge2
      have hje : j = es.length := by omega
      subst hje
      rw [List.drop_length, List.take_length] at hde
      rw [dblR] at hde
      simp only [List.append_nil] at hde
      rw [hde] at he
      rw [add1 hlt hlm]
      refine cond_intro (fun h => ?_) fun h => ?_
      · have h : 0 < c := by have := of_decide_eq_true h; omega
        have hc1 : c = 1 := by omega
        subst hc1
        rw [addC, if_pos (by simp only; omega)] at he
        refine ⟨⟨hw0 _, by unfold roomM; omega⟩, Nx.of (i + 1, es ++ [UInt8.ofNat 1]) ⟨hlt, by simp only [List.length_append, List.length_singleton]; omega, by simp, ?_, he⟩ (by simp only; omega) ?_⟩
        · intro x hx
          rcases List.mem_append.1 hx with h | h
          · exact heg x h
          · rw [List.mem_singleton.1 h]; decide
        · simp only [Sdc, hVec, List.length_append, List.length_singleton]
          rw [upd_upd, upd_upd]
          exact StLe.vec (t := 0) (n := es.length + 1) (upd_same _ _ _) fun k hk => cat_cv (enc := encB) (x := UInt8.ofNat 1) rfl hk
      · have h : c = 0 := by have := of_decide_eq_false h; omega
        subst h
        rw [addC, if_neg (by simp)] at he
        exact Nx.mk (i + 1, es) ⟨hlt, by simp only; omega, by simp only; omega, heg, he⟩ (by simp only; omega)
  · have hge := geI hge
    rw [List.drop_of_length_le hge, digR] at he
    refine ⟨trivial, fun hdm => ?_⟩
    refine at_le (st' := Sde ds .nilp [] (((ds.length : Nat) : Int) - 1)) ?_ ((StLe.idleBoxT _ 0 1 TU TB (cv ([] : Str) encB) rfl rfl).cast ?_)
    rotate_left
    · have : subI .i64 (ds.length : Int) 1 = (ds.length : Int) - 1 := by
        unfold subI
        unfold lenM at hdm
        exact IntWalk.i64_in _ ⟨by omega, by omega⟩
      rw [this]
      unfold Sde hDc
      simp only [hIdle, List.length_nil]
      rw [upd_upd]
      rfl
    refine lp (fn := Tryd.f25) (fun z : Nat × D × Str => z.1 ≤ ds.length ∧ (z.2.1 = .nilp ∨ z.2.1 = .bp 0 0) ∧ z.2.2 = (ds.drop z.1).reverse.map txtB) (fun z => Sde ds z.2.1 z.2.2 ((z.1 : Int) - 1)) (fun z => z.1) [3, 9, 10] (by kernel_rfl) (fun z hz => of_eq (ndcc ds z.2.1 z.2.2 ((z.1 : Int) - 1) _ _) ?_) (ds.length, .nilp, []) ⟨Nat.le_refl _, .inl rfl, by simp⟩
    obtain ⟨k, a, es⟩ := z
    obtain ⟨hk, ha, hes⟩ := hz
    simp only at hk ha hes ⊢
    have hesl : es.length = ds.length - k := by rw [hes]; simp
    rcases ha with rfl | rfl
    · have hw0 : upd (upd (fun _ => (none : Option Nat)) 0 (some ds.length)) 1 (some es.length) 0 = some ds.length := rfl
      refine cond_intro (fun h => ?_) fun h => ?_
      · have h := of_decide_eq_true h
        have h1 : ((k : Int) - 1).toNat = k - 1 := by omega
        have hin : (0 : Int) ≤ (k : Int) - 1 ∧ (k : Int) - 1 < (ds.length : Int) := ⟨by omega, by omega⟩
        have hlt : k - 1 < ds.length := by omega
        rw [h1]
        have hd10 : (ds.getD (k - 1) default).toNat < 10 := hdg _ (by simp [List.getD, List.getElem?_eq_getElem hlt])
        have hdrop : ds.drop (k - 1) = ds.getD (k - 1) default :: ds.drop k := by
          rw [drop_cons _ _ hlt, Nat.sub_add_cancel (by omega)]
        generalize ds.getD (k - 1) default = d at hd10 hdrop ⊢
        rw [add48 d hd10]
        refine ⟨⟨hw0, hin⟩, hw0, fr (WBz .nilp (.inl rfl) es ((48 + d.toNat : Nat) : Int) ⟨by omega, by omega⟩ (by omega)) [0] [1], Nx.of (k - 1, .bp 0 0, es ++ [txtB d]) ⟨by simp only; omega, .inr rfl, ?_⟩ (by simp only; omega) ?_⟩
        · simp only
          rw [hdrop, List.reverse_cons, List.map_append, ← hes]
          rfl
        · have h2 : subI .i64 ((k : Int) - 1) 1 = ((k - 1 : Nat) : Int) - 1 := by
            unfold subI
            unfold lenM at hdm
            rw [IntWalk.i64_in _ ⟨by omega, by omega⟩]; omega
          rw [h2, Int.toNat_natCast, upd_upd, upd_upd, upd_upd]
          exact StLe.refl _ _
      · have h := of_decide_eq_false h
        have hk0 : k = 0 := by omega
        subst hk0
        rw [List.drop_zero] at hes
        have hne : es ≠ [] := by
          intro h0
          rw [h0] at hesl
          simp at hesl; omega
        refine ⟨fr (e23 .nilp es hne) [0] [1], _, RetLe.wk ?_ rfl⟩
        unfold decR txtR
        rw [he, ← hes]
        exact Wk.refl _
    · have hw0 : upd (upd (fun _ => (none : Option Nat)) 0 (some ds.length)) 1 (some es.length) 0 = some ds.length := rfl
      refine cond_intro (fun h => ?_) fun h => ?_
      · have h := of_decide_eq_true h
        have h1 : ((k : Int) - 1).toNat = k - 1 := by omega
        have hin : (0 : Int) ≤ (k : Int) - 1 ∧ (k : Int) - 1 < (ds.length : Int) := ⟨by omega, by omega⟩
        have hlt : k - 1 < ds.length := by omega
        rw [h1]
        have hd10 : (ds.getD (k - 1) default).toNat < 10 := hdg _ (by simp [List.getD, List.getElem?_eq_getElem hlt])
        have hdrop : ds.drop (k - 1) = ds.getD (k - 1) default :: ds.drop k := by
          rw [drop_cons _ _ hlt, Nat.sub_add_cancel (by omega)]
        generalize ds.getD (k - 1) default = d at hd10 hdrop ⊢
        rw [add48 d hd10]
        refine ⟨⟨hw0, hin⟩, hw0, fr (WBz (.bp 0 0) (.inr rfl) es ((48 + d.toNat : Nat) : Int) ⟨by omega, by omega⟩ (by omega)) [0] [1], Nx.of (k - 1, .bp 0 0, es ++ [txtB d]) ⟨by simp only; omega, .inr rfl, ?_⟩ (by simp only; omega) ?_⟩
        · simp only
          rw [hdrop, List.reverse_cons, List.map_append, ← hes]
          rfl
        · have h2 : subI .i64 ((k : Int) - 1) 1 = ((k - 1 : Nat) : Int) - 1 := by
            unfold subI
            unfold lenM at hdm
            rw [IntWalk.i64_in _ ⟨by omega, by omega⟩]; omega
          rw [h2, Int.toNat_natCast, upd_upd, upd_upd, upd_upd]
          exact StLe.refl _ _
      · have h := of_decide_eq_false h
        have hk0 : k = 0 := by omega
        subst hk0
        rw [List.drop_zero] at hes
        have hne : es ≠ [] := by
          intro h0
          rw [h0] at hesl
          simp at hesl; omega
        refine ⟨fr (e23 (.bp 0 0) es hne) [0] [1], _, RetLe.wk ?_ rfl⟩
        unfold decR txtR
        rw [he, ← hes]
        exact Wk.refl _
end Go.Proofs.YtpcbjkjgjoemaaaDoor.S1
/- Numbers drawn: what both texts answer; plain lemmas. -/
namespace Go.Proofs.YtpcbjkjgjoemaaaDoor.S1
open Go Go.Ab Go.Proofs
/-- The characters of a value of bits. -/
def xz01 : Str := [48, 49, 120, 122]
/-- m more groups of four behind the first. -/
def hexG : Nat → Str → Str
  | 0, q => [groupR q]
  | m + 1, q => groupR (q.take (q.length - 4 * (m + 1))) :: hexG m (q.drop (q.length - 4 * (m + 1)))
def hexT (q : Str) : Str := if q = [] then [] else hexG ((q.length - 1) / 4) q
theorem hexT_nil : hexT [] = [] := by unfold hexT; rw [if_pos rfl]
theorem hexT_step {q : Str} (h : q ≠ []) : hexT q = groupR (q.take (1 + (q.length - 1) % 4)) :: hexT (q.drop (1 + (q.length - 1) % 4)) := by
  have hp : 0 < q.length := List.length_pos_iff.2 h
  unfold hexT
  rw [if_neg h]
  cases hm : (q.length - 1) / 4 with
  | zero =>
    have h1 : 1 + (q.length - 1) % 4 = q.length := by omega
    rw [h1, List.take_length, List.drop_length, if_pos rfl]
    rw [hexG]
  | succ m =>
    have h1 : 1 + (q.length - 1) % 4 = q.length - 4 * (m + 1) := by omega
    rw [h1, hexG]
    have hl : (q.drop (q.length - 4 * (m + 1))).length = 4 * (m + 1) := by rw [List.length_drop]; omega
    have hne : q.drop (q.length - 4 * (m + 1)) ≠ [] := by
      intro h0; rw [h0] at hl; simp at hl
    rw [if_neg hne, hl]
    have : (4 * (m + 1) - 1) / 4 = m := by omega
    rw [this]
theorem hexG_last : ∀ (m : Nat) (s : Str), 4 * (m + 1) < s.length → s.length ≤ 4 * (m + 1) + 4 → hexG (m + 1) s = hexG m (s.take (s.length - 4)) ++ [groupR (s.drop (s.length - 4))]
  | 0, s, h1, h2 => by
    rw [hexG, hexG, hexG]
    simp
  | m + 1, s, h1, h2 => by
    rw [hexG]
    have hl : (s.drop (s.length - 4 * (m + 1 + 1))).length = 4 * (m + 1 + 1) := by rw [List.length_drop]; omega
    rw [hexG_last m _ (by rw [hl]; omega) (by rw [hl]; omega), hl]
    conv => rhs; rw [hexG]
    have h3 : (s.take (s.length - 4)).length = s.length - 4 := by rw [List.length_take]; omega
    rw [h3, List.take_take]
    have e1 : min (s.length - 4 - 4 * (m + 1)) (s.length - 4) = s.length - 4 * (m + 1 + 1) := by omega
    have e2 : (s.drop (s.length - 4 * (m + 1 + 1))).take (4 * (m + 1 + 1) - 4) = (s.take (s.length - 4)).drop (s.length - 4 - 4 * (m + 1)) := by
      rw [List.drop_take]
      congr 1
      · omega
      · congr 1; omega
    have e3 : (s.drop (s.length - 4 * (m + 1 + 1))).drop (4 * (m + 1 + 1) - 4) = s.drop (s.length - 4) := by
      rw [List.drop_drop]; congr 1; omega
    rw [e1, e2, e3, List.cons_append]
theorem hexT_last {s : Str} (h : 4 < s.length) : hexT s = hexT (s.take (s.length - 4)) ++ [groupR (s.drop (s.length - 4))] := by
  have hl : (s.take (s.length - 4)).length = s.length - 4 := by rw [List.length_take]; omega
  have h1 : s ≠ [] := by intro h0; rw [h0] at h; simp at h
  have h2 : s.take (s.length - 4) ≠ [] := by intro h0; rw [h0] at hl; simp at hl; omega
  unfold hexT
  rw [if_neg h1, if_neg h2, hl]
  have : (s.length - 1) / 4 = (s.length - 4 - 1) / 4 + 1 := by omega
  rw [this]
  exact hexG_last _ s (by omega) (by omega)
theorem hexT_small {s : Str} (h0 : s ≠ []) (h : s.length ≤ 4) : hexT s = [groupR s] := by
  have := List.length_pos_iff.2 h0
  unfold hexT
  rw [if_neg h0, show (s.length - 1) / 4 = 0 by omega, hexG]
def numR (q : Str) (base : Int) : Str :=
  if q = [] ∨ q.length > 128 ∨ q.all xz01.contains = false then []
  else if base = 0 then q
  else if base = 1 then hexT q
  else if base = 2 then (if sameR q = 120 ∨ sameR q = 122 then [sameR q] else if q.all bit01 = true then decR q else [88])
  else []
theorem sameR_iff {q : Str} (h : q ≠ []) {c : UInt8} (hc : c ≠ 0) : sameR q = c ↔ q.all (· == c) = true := by
  cases q with
  | nil => exact absurd rfl h
  | cons x r =>
    unfold sameR
    simp only [List.getD_cons_zero]
    constructor
    · intro h1
      split at h1
      · rename_i h2; subst h1; exact h2
      · exact absurd h1.symm hc
    · intro h1
      have hx : x = c := by
        simp only [List.all_cons, Bool.and_eq_true, beq_iff_eq] at h1
        exact h1.1
      subst hx
      rw [if_pos h1]
/-- The digit of a group, by the reference. -/
def grpF (q : Str) : Str := if q.all (· == 120) = true then [120] else if q.all (· == 122) = true then [122] else if q.all bit01 = true then [figs.getD (binF 0 q) 0] else [88]
theorem grpF_eq {q : Str} (h : q ≠ []) : grpF q = [groupR q] := by
  have h1 := sameR_iff h (c := 120) (by decide)
  have h2 := sameR_iff h (c := 122) (by decide)
  unfold grpF groupR
  by_cases a : q.all (· == 120) = true
  · rw [if_pos a, if_pos (.inl (h1.2 a)), h1.2 a]
  · rw [if_neg a]
    by_cases b : q.all (· == 122) = true
    · rw [if_pos b, if_pos (.inr (h2.2 b)), h2.2 b]
    · rw [if_neg b, if_neg (fun hc => Or.elim hc (fun e => a (h1.1 e)) fun e => b (h2.1 e))]
      split <;> rfl
theorem binF_lt : ∀ (q : Str) (n : Nat), q.all bit01 = true → binF n q < (n + 1) * 2 ^ q.length
  | [], n, _ => by rw [binF_nil]; simp
  | b :: r, n, h => by
    rw [List.all_cons, Bool.and_eq_true] at h
    rw [binF_cons]
    have := binF_lt r (2 * n + dig48 b) h.2
    have hb := dig_le h.1
    refine Nat.lt_of_lt_of_le this ?_
    rw [List.length_cons, Nat.pow_succ, Nat.mul_comm (2 ^ r.length) 2, ← Nat.mul_assoc]
    exact Nat.mul_le_mul_right _ (by omega)
end Go.Proofs.YtpcbjkjgjoemaaaDoor.S1
/- A number drawn: the code's function. -/
namespace Go.Proofs.YtpcbjkjgjoemaaaDoor.S1
open Go Go.Ab Go.Proofs
theorem trim_all2 (q r : Str) : Lib.trimS q r = [] ↔ ∀ b ∈ q, r.contains b = true := by
  have key : ∀ (l : Str), (l.dropWhile fun b => r.contains b) = [] ↔ ∀ b ∈ l, r.contains b = true := fun l => dw_nil _ _
  unfold Lib.trimS Lib.trimLeftS Lib.trimRightS
  constructor
  · intro h b hb
    have h1 := (key _).1 h
    by_cases hd : b ∈ (q.reverse.dropWhile fun b => r.contains b)
    · exact h1 b (by simpa using hd)
    · have hb' : b ∈ q.reverse := by simpa using hb
      rw [← List.takeWhile_append_dropWhile (p := fun b => r.contains b) (l := q.reverse)] at hb'
      rcases List.mem_append.1 hb' with h2 | h2
      · exact tw_mem _ _ _ h2
      · exact absurd h2 hd
  · intro h
    have : (q.reverse.dropWhile fun b => r.contains b) = [] := (key _).2 fun b hb => h b (by simpa using hb)
    rw [this]; rfl
/-- Trim, as a word that does not unfold. -/
noncomputable def trimC (s q : Str) : Str := Classical.choose (⟨Lib.trimS s q, rfl⟩ : ∃ x, x = Lib.trimS s q)
theorem trimC_eq (s q : Str) : trimC s q = Lib.trimS s q := Classical.choose_spec (⟨Lib.trimS s q, rfl⟩ : ∃ x, x = Lib.trimS s q)
theorem ctrimC [Lay] (s q : Str) (hs : s.length ≤ strM) (hq : q.length < 1000000) (ha : ∀ b ∈ q, b.toNat < 128) (hl : (Lib.trimS s q).length ≤ strM) : Pure PP 20 [.str s, .str q] (.str (trimC s q)) := by
  rw [trimC_eq]; exact c20 s q hs hq ha hl
theorem F8 : OkF 8 Tryd.f8 := ⟨by kernel_rfl, by kernel_rfl, by kernel_rfl⟩
def lv8 : List (List Nat × List Nat) := [([1, 1, 0, 1, 0, 1, 1, 1, 0, 1, 0, 1, 0], [0, 5, 6])]
noncomputable def nnus (q : Str) : List Nat → Nat → Option Ans := scrAt [([1, 0, 0], 9, Ans.pure [.str q, .str { data := #[48, 49, 120, 122] : ByteArray }.data.toList] (.str (trimC q { data := #[48, 49, 120, 122] : ByteArray }.data.toList))), ([1, 1, 0, 1, 0, 1, 1, 1, 1, 1, 0, 0, 0], 1, Ans.pure [.str q] (encB (sameR q))), ([1, 1, 0, 1, 0, 1, 1, 1, 1, 1, 0, 1, 0, 0], 1, Ans.pure [.str q, .str { data := #[48, 49] : ByteArray }.data.toList] (.str (trimC q { data := #[48, 49] : ByteArray }.data.toList))), ([1, 1, 0, 1, 0, 1, 1, 1, 1, 1, 0, 1, 1, 0], 1, Ans.pure [.str q] (.str (decR q)))]
theorem nnu [Lay] (q : Str) (base : Int) (K : D → Heap → Prop) : runS (EnX [5] Tryd.f8) (fh Tryd.f8 K) (nnus q) lv8 200 [.code []] ⟨argSlots 0 [.str q, I base], .empty⟩ =
  (((!q == { data := #[] : ByteArray }.data.toList) = true → List.length q ≤ strM) →
  ((!bif q == { data := #[] : ByteArray }.data.toList then true else decide ((↑(List.length q) : Int) > 128)) = true → PureW PP 20 [.str q, .str { data := #[48, 49, 120, 122] : ByteArray }.data.toList] [.str q, .str { data := #[48, 49, 120, 122] : ByteArray }.data.toList] (.str (trimC q { data := #[48, 49, 120, 122] : ByteArray }.data.toList))) ∧
    bif bif bif q == { data := #[] : ByteArray }.data.toList then true else decide ((↑(List.length q) : Int) > 128) then true else !trimC q { data := #[48, 49, 120, 122] : ByteArray }.data.toList == { data := #[] : ByteArray }.data.toList then K (.str { data := #[] : ByteArray }.data.toList) Heap.empty
    else bif base == 0 then K (.str q) Heap.empty else bif base == 1 then True ∧ At (EnX [5] Tryd.f8) (fh Tryd.f8 K) [It.code [1, 1, 0, 1, 0, 1, 1, 1, 0, 1, 0, 1, 0], It.blk 1, It.code [1, 1, 0, 1, 0, 1, 1, 1, 0, 1, 1], It.blk 0, It.code [1, 1, 1]] { sl := [(0, .str q), (5, D.bp 0 0), (6, I 0)], h := { box := upd (fun _ => none) 0 (some (Row.litT 57 [D.nilp, .list 0 0 (fun _ => D.junk) .full])), nl := 1, hw := fun _ => none, nt := 0, vw := fun _ => none : Heap } : St } else bif base == 2 then PureW PP 24 [.str q] [.str q] (encB (sameR q)) ∧ bif bif (↑(sameR q).toNat : Int) == 120 then true else (↑(sameR q).toNat : Int) == 122 then allByte 1 (litG [D.int IntKind.u8 (↑(sameR q).toNat : Int)]) ∧ K (.str (bytesG 1 (litG [D.int IntKind.u8 (↑(sameR q).toNat : Int)]))) Heap.empty else PureW PP 20 [.str q, .str { data := #[48, 49] : ByteArray }.data.toList] [.str q, .str { data := #[48, 49] : ByteArray }.data.toList] (.str (trimC q { data := #[48, 49] : ByteArray }.data.toList)) ∧ bif !trimC q { data := #[48, 49] : ByteArray }.data.toList == { data := #[] : ByteArray }.data.toList then K (.str { data := #[88] : ByteArray }.data.toList) Heap.empty else PureW PP 25 [.str q] [.str q] (.str (decR q)) ∧ K (.str (decR q)) Heap.empty else K (.str { data := #[] : ByteArray }.data.toList) Heap.empty) := by kernel_rfl
def Snu (q : Str) (a : D) (es : Str) (i : Int) : St := ⟨[(0, .str q), (5, .bp 0 0), (6, I i)], hSb a es⟩
noncomputable def nnuas (q : Str) (es : Str) (i : Int) : List Nat → Nat → Option Ans := scrAt [([1, 1, 0, 1, 0, 1, 1, 1, 0, 1, 0, 1, 0, 0, 1, 0, 1, 0], 4, Ans.pure [.str (List.drop i.toNat (List.take (addI .i64 (addI .i64 i 1) ((subI .i64 (subI .i64 (↑(List.length q) : Int) i) 1).tmod 4)).toNat q))] (encB (groupR (List.drop i.toNat (List.take (addI .i64 (addI .i64 i 1) ((subI .i64 (subI .i64 (↑(List.length q) : Int) i) 1).tmod 4)).toNat q))))), ([1, 1, 0, 1, 0, 1, 1, 1, 0, 1, 0, 1, 0, 0, 1, 0, 1, 0], 5, Ans.eff D.nili (hSb (D.bp 0 0) (es ++ [groupR (List.drop i.toNat (List.take (addI .i64 (addI .i64 i 1) ((subI .i64 (subI .i64 (↑(List.length q) : Int) i) 1).tmod 4)).toNat q))]))), ([1, 1, 0, 1, 0, 1, 1, 1, 0, 1, 1, 0], 0, Ans.eff (.str es) h11)]
theorem nnua [Lay] (q : Str) (a : D) (es : Str) (i : Int) (J : St → Prop) (K : D → Heap → Prop) : runS (EnX [5] Tryd.f8) (fh Tryd.f8 K) (nnuas q es i) lv8 200 [.code [1, 1, 0, 1, 0, 1, 1, 1, 0, 1, 0, 1, 0, 0], stp [0, 5, 6] J, .blk 1, .code [1, 1, 0, 1, 0, 1, 1, 1, 0, 1, 1], .blk 0, .code [1, 1, 1]] (Snu q a es i) =
  (List.length q ≤ strM →
  bif decide (i < (↑(List.length q) : Int)) then
    List.length q ≤ strM →
      (4 : Int) ≠ 0 ∧
        (0 ≤ i ∧ i ≤ addI .i64 (addI .i64 i 1) ((subI .i64 (subI .i64 (↑(List.length q) : Int) i) 1).tmod 4) ∧ addI .i64 (addI .i64 i 1) ((subI .i64 (subI .i64 (↑(List.length q) : Int) i) 1).tmod 4) ≤ (↑(List.length q) : Int)) ∧
          PureW PP 22 [.str (List.drop i.toNat (List.take (addI .i64 (addI .i64 i 1) ((subI .i64 (subI .i64 (↑(List.length q) : Int) i) 1).tmod 4)).toNat q))] [.str (List.drop i.toNat (List.take (addI .i64 (addI .i64 i 1) ((subI .i64 (subI .i64 (↑(List.length q) : Int) i) 1).tmod 4)).toNat q))] (encB (groupR (List.drop i.toNat (List.take (addI .i64 (addI .i64 i 1) ((subI .i64 (subI .i64 (↑(List.length q) : Int) i) 1).tmod 4)).toNat q)))) ∧
            Does PP 21 [D.bp 0 0, D.int IntKind.u8 (↑(groupR (List.drop i.toNat (List.take (addI .i64 (addI .i64 i 1) ((subI .i64 (subI .i64 (↑(List.length q) : Int) i) 1).tmod 4)).toNat q))).toNat : Int)] { box := upd (fun _ => none) 0 (some (Row.litT TB [a, D.bv TU 0 (List.length es)])), nl := 1, hw := upd (fun _ => none) 0 (some (List.length es)), nt := 1, vw := upd (fun _ => none) 0 (some (cv es encB)) : Heap } D.nili (hSb (D.bp 0 0) (es ++ [groupR (List.drop i.toNat (List.take (addI .i64 (addI .i64 i 1) ((subI .i64 (subI .i64 (↑(List.length q) : Int) i) 1).tmod 4)).toNat q))])) ∧ J { sl := [(0, .str q), (5, D.bp 0 0), (6, I (addI .i64 (addI .i64 i 1) ((subI .i64 (subI .i64 (↑(List.length q) : Int) i) 1).tmod 4)))], h := { box := upd (fun _ => none) 0 (some (Row.litT TB [D.bp 0 0, D.bv TU 0 (List.length (es ++ [groupR (List.drop i.toNat (List.take (addI .i64 (addI .i64 i 1) ((subI .i64 (subI .i64 (↑(List.length q) : Int) i) 1).tmod 4)).toNat q))]))])), nl := 1, hw := upd (fun _ => none) 0 (some (List.length (es ++ [groupR (List.drop i.toNat (List.take (addI .i64 (addI .i64 i 1) ((subI .i64 (subI .i64 (↑(List.length q) : Int) i) 1).tmod 4)).toNat q))]))), nt := 1, vw := upd (fun _ => none) 0 (some (cv (es ++ [groupR (List.drop i.toNat (List.take (addI .i64 (addI .i64 i 1) ((subI .i64 (subI .i64 (↑(List.length q) : Int) i) 1).tmod 4)).toNat q))]) encB)) : Heap } : St }
  else Does PP 23 [D.bp 0 0] { box := upd (fun _ => none) 0 (some (Row.litT TB [a, D.bv TU 0 (List.length es)])), nl := 1, hw := upd (fun _ => none) 0 (some (List.length es)), nt := 1, vw := upd (fun _ => none) 0 (some (cv es encB)) : Heap } (.str es) h11 ∧ K (.str es) { box := fun _ => none, nl := 1, hw := fun _ => none, nt := 1, vw := fun _ => none : Heap }) := by kernel_rfl
theorem trimC_xz (q : Str) : (trimC q xz01 == ([] : Str)) = q.all xz01.contains := by
  rw [trimC_eq, Bool.eq_iff_iff, beq_iff_eq, trim_all2, List.all_eq_true]
theorem cont01 (b : UInt8) : ([48, 49] : Str).contains b = bit01 b := by
  rw [Bool.eq_iff_iff]; simp [bit01, List.contains_cons]
theorem trimC_01 (q : Str) : (trimC q [48, 49] == ([] : Str)) = q.all bit01 := by
  rw [trimC_eq, Bool.eq_iff_iff, beq_iff_eq, trim_all2, List.all_eq_true]
  simp only [cont01]
theorem bytesG_one (c : UInt8) : bytesG 1 (litG [D.int IntKind.u8 (c.toNat : Int)]) = [c] := by
  show [UInt8.ofNat ((c.toNat : Int)).toNat] = [c]
  rw [Int.toNat_natCast, UInt8.ofNat_toNat]
theorem xz_ascii {q : Str} (h : q.all xz01.contains = true) : ∀ b ∈ q, b.toNat < 128 := fun b hb => by
  have := List.all_eq_true.1 h b hb
  have hm : b = 48 ∨ b = 49 ∨ b = 120 ∨ b = 122 := by simpa [xz01, List.contains_cons] using this
  rcases hm with rfl | rfl | rfl | rfl <;> decide
theorem c8 [Lay] (q : Str) (base : Int) (hl : q.length ≤ 1000000) : Pure PP 8 [.str q, I base] (.str (numR q base)) := by
  have e0 : ({ data := #[] } : ByteArray).data.toList = ([] : Str) := rfl
  have e1 : ({ data := #[48, 49, 120, 122] } : ByteArray).data.toList = xz01 := rfl
  have e2 : ({ data := #[48, 49] } : ByteArray).data.toList = ([48, 49] : Str) := rfl
  have hs : q.length ≤ strM := by unfold strM; omega
  have hT : ∀ r : Str, r.length < 1000000 → (∀ b ∈ r, b.toNat < 128) → Pure PP 20 [.str q, .str r] (.str (trimC q r)) := fun r h1 h2 => ctrimC _ _ hs h1 h2 (Nat.le_trans (trim_len _ _) hs)
  refine pr F8 (by kernel_rfl) (of_eq (nnu q base _) fun _ => ⟨fun _ => PureW.mk (hT _ (by decide) (by decide)), ?_⟩)
  rw [e0, e1, e2, trimC_xz]
  have hc : (bif bif q == ([] : Str) then true else decide ((q.length : Int) > 128) then true else !(q.all xz01.contains)) = decide (q = [] ∨ q.length > 128 ∨ q.all xz01.contains = false) := by
    rw [Bool.eq_iff_iff]
    by_cases h1 : q = []
    · simp [h1]
    · have : (q == ([] : Str)) = false := by simpa using h1
      rw [this]
      by_cases h2 : q.length > 128
      · have : decide ((q.length : Int) > 128) = true := decide_eq_true (by omega)
        rw [this]; simp [h2]
      · have : decide ((q.length : Int) > 128) = false := decide_eq_false (by omega)
        rw [this]; simp [h1, h2]
  rw [hc]
  refine cond_intro (fun h => ?_) fun h => ?_
  · rw [numR, if_pos (of_decide_eq_true h)]; exact ⟨_, RetLe.refl _ _⟩
  have h := of_decide_eq_false h
  rw [numR, if_neg h]
  have hne : q ≠ [] := fun h1 => h (.inl h1)
  have hl2 : q.length ≤ 128 := by
    rcases Nat.lt_or_ge 128 q.length with h1 | h1
    · exact absurd (.inr (.inl h1)) h
    · exact h1
  have hxz : q.all xz01.contains = true := by
    cases hq : q.all xz01.contains with
    | true => rfl
    | false => exact absurd (.inr (.inr hq)) h
  have hasc := xz_ascii hxz
  refine cond_intro (fun hb => ?_) fun hb => ?_
  · rw [if_pos (by simpa using hb)]; exact ⟨_, RetLe.refl _ _⟩
  rw [if_neg (by simpa using hb)]
  refine cond_intro (fun hb1 => ⟨trivial, ?_⟩) fun hb1 => ?_
  · rw [if_pos (by simpa using hb1)]
    refine at_le (st' := Snu q .nilp [] ((0 : Nat) : Int)) ?_ ((StLe.idleBoxT _ 0 1 TU TB (cv ([] : Str) encB) rfl rfl).cast ?_)
    rotate_left
    · unfold Snu hSb
      simp only [hIdle, List.length_nil]
      rw [upd_upd]
      rfl
    refine lp (fn := Tryd.f8) (fun z : Nat × D × Str => z.1 ≤ q.length ∧ (z.2.1 = .nilp ∨ z.2.1 = .bp 0 0) ∧ z.2.2.length ≤ z.1 ∧ (0 < z.1 → z.2.2 ≠ []) ∧ hexT q = z.2.2 ++ hexT (q.drop z.1)) (fun z => Snu q z.2.1 z.2.2 z.1) (fun z => q.length - z.1) [0, 5, 6] (by kernel_rfl) (fun z hz => of_eq (nnua q z.2.1 z.2.2 z.1 _ _) fun _ => ?_) (0, .nilp, []) ⟨Nat.zero_le _, .inl rfl, Nat.le_refl _, fun h => absurd h (Nat.lt_irrefl _), rfl⟩
    obtain ⟨i, a, es⟩ := z
    obtain ⟨hi, ha, hel, hnz, he⟩ := hz
    simp only at hi ha hel hnz he ⊢
    refine cond_intro (fun hlt => fun _ => ?_) fun hge => ?_
    · have hlt := ltI hlt
      have hdl : (q.drop i).length = q.length - i := List.length_drop ..
      have hdn : q.drop i ≠ [] := by intro h0; rw [h0] at hdl; simp at hdl; omega
      rw [hexT_step hdn] at he
      generalize hk : 1 + ((q.drop i).length - 1) % 4 = k at he
      have hk4 : k ≤ 4 := by omega
      have hk0 : 0 < k := by omega
      have hkl : i + k ≤ q.length := by omega
      have hto : addI .i64 (addI .i64 (i : Int) 1) ((subI .i64 (subI .i64 (q.length : Int) i) 1).tmod 4) = ((i + k : Nat) : Int) := by
        rw [sub64 (a := (q.length : Int)) (by omega) (by omega), sub64 (by omega) (by omega)]
        have h1 : (q.length : Int) - (i : Int) - 1 = ((q.length - i - 1 : Nat) : Int) := by omega
        have h2 : (((q.length - i - 1 : Nat) : Int)).tmod 4 = (((q.length - i - 1) % 4 : Nat) : Int) := rfl
        rw [h1, h2, add64 (a := (i : Int)) (b := 1) (by omega) (by omega), add64 (by omega) (by omega), ← hk, hdl]
        omega
      rw [hto, Int.toNat_natCast, Int.toNat_natCast]
      have hdt : (q.take (i + k)).drop i = (q.drop i).take k := by
        rw [List.drop_take]
        congr 1; omega
      rw [hdt]
      have htl : ((q.drop i).take k).length = k := by rw [List.length_take, hdl]; omega
      refine ⟨by decide, ⟨by omega, by omega, by omega⟩, PureW.mk (c22 _ (by rw [htl]; exact hk0) (by rw [htl]; omega) fun b hb => hasc b (List.mem_of_mem_drop (List.mem_of_mem_take hb))), e21 a ha es _ (by omega), ?_⟩
      refine Nx.of (i + k, .bp 0 0, es ++ [groupR ((q.drop i).take k)]) ⟨hkl, .inr rfl, ?_, ?_, ?_⟩ ?_ (StLe.refl _ _)
      · simp only [List.length_append, List.length_singleton]; omega
      · intro _; simp
      · simp only
        rw [he, List.drop_drop, List.append_assoc]; rfl
      · simp only; omega
    · have hge := geI hge
      have : i = q.length := by omega
      subst this
      rw [List.drop_length, hexT_nil, List.append_nil] at he
      refine ⟨e23 a es (hnz (List.length_pos_iff.2 hne)), _, RetLe.wk ?_ rfl⟩
      rw [he]; exact Wk.refl _
  rw [if_neg (by simpa using hb1)]
  refine cond_intro (fun hb2 => ⟨PureW.mk (c24 q (List.length_pos_iff.2 hne) hl hasc), ?_⟩) fun hb2 => ?_
  · rw [if_pos (by simpa using hb2)]
    have hsm : (bif ((sameR q).toNat : Int) == 120 then true else ((sameR q).toNat : Int) == 122) = decide (sameR q = 120 ∨ sameR q = 122) := by
      rw [Bool.eq_iff_iff]
      simp [← UInt8.toNat_inj]
      omega
    rw [hsm]
    refine cond_intro (fun h1 => ⟨?_, ?_⟩) fun h1 => ⟨PureW.mk (hT _ (by decide) (by decide)), ?_⟩
    · intro j hj
      have : j = 0 := by omega
      subst this
      exact ⟨sameR q, rfl⟩
    · rw [if_pos (of_decide_eq_true h1), bytesG_one]; exact ⟨_, RetLe.refl _ _⟩
    · rw [if_neg (of_decide_eq_false h1), trimC_01]
      refine cond_intro (fun h2 => ?_) fun h2 => ?_
      · rw [if_neg (by simpa using h2)]; exact ⟨_, RetLe.refl _ _⟩
      · have h2 : q.all bit01 = true := by simpa using h2
        rw [if_pos h2]
        exact ⟨PureW.mk (c25 q h2 (by omega)), _, RetLe.refl _ _⟩
  · rw [if_neg (by simpa using hb2)]; exact ⟨_, RetLe.refl _ _⟩
end Go.Proofs.YtpcbjkjgjoemaaaDoor.S1
/- Lines: small functions. -/
namespace Go.Proofs.YtpcbjkjgjoemaaaDoor.S1
open Go Go.Ab Go.Proofs
structure Ln where (sig : Int) (lab : Str) (base : Int) deriving Inhabited, DecidableEq
def Ln.d (x : Ln) : D := .agg [I x.sig, .str x.lab, I x.base]
instance {x : Ln} : DD x.d := inferInstanceAs (DD (.agg _))
theorem cRepZ [Lay] (s : Str) (z : Int) (h0 : 0 ≤ z ∧ z ≤ 1000000) (hn : s.length * z.toNat ≤ 1000000) : Pure PP 39 [.str s, I z] (.str (Lib.repeatL s z.toNat)) := by
  have := c39 s z.toNat hn (by omega)
  rw [show ((z.toNat : Nat) : Int) = z by omega] at this
  exact this
theorem F44 : OkF 44 Tryd.f44 := ⟨by kernel_rfl, by kernel_rfl, by kernel_rfl⟩
def lv44 : List (List Nat × List Nat) := []
noncomputable def nszs  : List Nat → Nat → Option Ans := scrAt []
theorem nsz [Lay] (a b : Int) (K : D → Prop) : runS (En Tryd.f44) (fi Tryd.f44 K) (nszs ) lv44 200 [.code []] ⟨argSlots 0 [I a, I b], .empty⟩ =
  (K (B (bif bif bif decide (a ≥ 1) then decide (a ≤ 1099511627776) else false then decide (b ≥ 1) else false then decide (b ≤ 200) else false))) := by kernel_rfl
theorem F58 : OkF 58 Tryd.f58 := ⟨by kernel_rfl, by kernel_rfl, by kernel_rfl⟩
def lv58 : List (List Nat × List Nat) := [([1, 0, 1, 0], [1, 7, 8, 9])]
noncomputable def nlas  : List Nat → Nat → Option Ans := scrAt []
theorem nla [Lay] (l : Ln) (K : D → Prop) : runS (En Tryd.f58) (fi Tryd.f58 K) (nlas ) lv58 200 [.code []] ⟨argSlots 0 [l.d], .empty⟩ =
  (List.length l.lab ≤ lenM → At (En Tryd.f58) (fi Tryd.f58 K) [It.code [1, 0, 1, 0], It.blk 0, It.code [1, 1]] { sl := [(1, .own [I l.sig, .str l.lab, I l.base]), (7, .list (List.length l.lab) 1 (strG l.lab) .none), (8, I (↑(List.length l.lab) : Int)), (9, I 0)], h := Heap.empty : St }) := by kernel_rfl
def Sla (l : Ln) (i : Int) : St := ⟨[(1, .own [I l.sig, .str l.lab, I l.base]), (7, L l.lab 1 encB), (8, I l.lab.length), (9, I i)], .empty⟩
noncomputable def nlaas  : List Nat → Nat → Option Ans := scrAt []
theorem nlaa [Lay] (l : Ln) (i : Int) (J : St → Prop) (K : D → Prop) : runS (En Tryd.f58) (fi Tryd.f58 K) (nlaas ) lv58 200 [.code [1, 0, 1, 0, 0], stp [1, 7, 8, 9] J, .blk 0, .code [1, 1]] (Sla l i) =
  (bif decide (i < (↑(List.length l.lab) : Int)) then (0 ≤ i ∧ i < (↑(List.length l.lab) : Int)) ∧ bif bif decide ((↑(List.getD l.lab i.toNat default).toNat : Int) < 32) then true else decide ((↑(List.getD l.lab i.toNat default).toNat : Int) > 126) then K (B false) else J { sl := [(1, .own [I l.sig, .str l.lab, I l.base]), (7, L l.lab 1 encB), (8, I (↑(List.length l.lab) : Int)), (9, I (addI .i64 i 1))], h := Heap.empty : St } else ((bif decide (l.base ≥ 0) then decide (l.base ≤ 2) else false) = true → List.length l.lab ≤ strM) → K (B (bif bif decide (l.base ≥ 0) then decide (l.base ≤ 2) else false then decide ((↑(List.length l.lab) : Int) ≤ 64) else false))) := by kernel_rfl
theorem F32 : OkF 32 Tryd.f32 := ⟨by kernel_rfl, by kernel_rfl, by kernel_rfl⟩
def lv32 : List (List Nat × List Nat) := []
noncomputable def nlasts  : List Nat → Nat → Option Ans := scrAt []
theorem nlast [Lay] (a b c d : Int) (K : D → Prop) : runS (En Tryd.f32) (fi Tryd.f32 K) (nlasts ) lv32 200 [.code []] ⟨argSlots 0 [.agg [I a, I b, I c, I d]], .empty⟩ =
  (K (I (if subI .i64 (addI .i64 a (mulI .i64 c b)) 1 < d then subI .i64 (addI .i64 a (mulI .i64 c b)) 1 else d))) := by kernel_rfl
theorem F64 : OkF 64 Tryd.f64 := ⟨by kernel_rfl, by kernel_rfl, by kernel_rfl⟩
def lv64 : List (List Nat × List Nat) := []
noncomputable def nfis (q : Str) (n : Int) : List Nat → Nat → Option Ans := scrAt [([1, 1, 0], 5, Ans.pure [.str { data := #[32] : ByteArray }.data.toList, I (subI .i64 n (↑(List.length q) : Int))] (.str (Lib.repeatL { data := #[32] : ByteArray }.data.toList (subI .i64 n (↑(List.length q) : Int)).toNat)))]
theorem nfi [Lay] (q : Str) (n : Int) (K : D → Prop) : runS (En Tryd.f64) (fi Tryd.f64 K) (nfis q n) lv64 200 [.code []] ⟨argSlots 0 [.str q, I n], .empty⟩ =
  (List.length q ≤ strM → bif decide ((↑(List.length q) : Int) > n) then ((0 : Int) ≤ 0 ∧ 0 ≤ subI .i64 n 1 ∧ subI .i64 n 1 ≤ (↑(List.length q) : Int)) ∧ (List.drop 0 (List.take (subI .i64 n 1).toNat q)).length + 1 ≤ strM ∧ K (.str (List.drop 0 (List.take (subI .i64 n 1).toNat q) ++ { data := #[126] : ByteArray }.data.toList)) else List.length q ≤ strM → PureW PP 39 [.str { data := #[32] : ByteArray }.data.toList, I (subI .i64 n (↑(List.length q) : Int))] [.str { data := #[32] : ByteArray }.data.toList, I (subI .i64 n (↑(List.length q) : Int))] (.str (Lib.repeatL { data := #[32] : ByteArray }.data.toList (subI .i64 n (↑(List.length q) : Int)).toNat)) ∧ List.length q + (Lib.repeatL { data := #[32] : ByteArray }.data.toList (subI .i64 n (↑(List.length q) : Int)).toNat).length ≤ strM ∧ K (.str (q ++ Lib.repeatL { data := #[32] : ByteArray }.data.toList (subI .i64 n (↑(List.length q) : Int)).toNat))) := by kernel_rfl
theorem F47 : OkF 47 Tryd.f47 := ⟨by kernel_rfl, by kernel_rfl, by kernel_rfl⟩
def lv47 : List (List Nat × List Nat) := []
noncomputable def nfts  : List Nat → Nat → Option Ans := scrAt []
theorem nft [Lay] (a b : Int) (K : D → Prop) : runS (En Tryd.f47) (fi Tryd.f47 K) (nfts ) lv47 200 [.code []] ⟨argSlots 0 [I a, I b], .empty⟩ =
  (K (B (bif bif bif decide (a ≥ 1) then decide (a ≤ 1099511627776) else false then decide (b ≥ 1) else false then decide (b ≤ 200) else false))) := by kernel_rfl
theorem F49 : OkF 49 Tryd.f49 := ⟨by kernel_rfl, by kernel_rfl, by kernel_rfl⟩
def lv49 : List (List Nat × List Nat) := [([1, 1, 0, 1, 0], [0, 3, 4])]
noncomputable def nbls  : List Nat → Nat → Option Ans := scrAt []
theorem nbl [Lay] (a : Int) (K : D → Prop) : runS (En Tryd.f49) (fi Tryd.f49 K) (nbls ) lv49 200 [.code []] ⟨argSlots 0 [I a], .empty⟩ =
  (At (En Tryd.f49) (fi Tryd.f49 K) [It.code [1, 1, 0, 1, 0], It.blk 0, It.code [1, 1, 1]] { sl := [(0, I a), (3, .str { data := #[] : ByteArray }.data.toList), (4, I 0)], h := Heap.empty : St }) := by kernel_rfl
def Sbl (a : Int) (q : Str) (i : Int) : St := ⟨[(0, I a), (3, .str q), (4, I i)], .empty⟩
noncomputable def nblas  : List Nat → Nat → Option Ans := scrAt []
theorem nbla [Lay] (a : Int) (q : Str) (i : Int) (J : St → Prop) (K : D → Prop) : runS (En Tryd.f49) (fi Tryd.f49 K) (nblas ) lv49 200 [.code [1, 1, 0, 1, 0, 0], stp [0, 3, 4] J, .blk 0, .code [1, 1, 1]] (Sbl a q i) =
  (bif decide (i < a) then List.length q + 1 ≤ strM ∧ J { sl := [(0, I a), (3, .str (q ++ { data := #[32] : ByteArray }.data.toList)), (4, I (addI .i64 i 1))], h := Heap.empty : St } else K (.str q)) := by kernel_rfl
theorem F70 : OkF 70 Tryd.f70 := ⟨by kernel_rfl, by kernel_rfl, by kernel_rfl⟩
def lv70 : List (List Nat × List Nat) := [([1, 1, 0, 1, 0], [1, 2, 3, 8, 9, 10])]
noncomputable def ncnts  : List Nat → Nat → Option Ans := scrAt []
theorem ncnt [Lay] (q : Sig) (a b : Int) (K : D → Prop) : runS (En Tryd.f70) (fi Tryd.f70 K) (ncnts ) lv70 200 [.code []] ⟨argSlots 0 [q.d, I a, I b], .empty⟩ =
  (At (En Tryd.f70) (fi Tryd.f70 K) [It.code [1, 1, 0, 1, 0], It.blk 0, It.code [1, 1, 1]] { sl := [(1, I a), (2, I b), (3, .own [I q.kind, I q.width, L q.chg 2 Chg.d]), (8, I 0), (9, .str { data := #[] : ByteArray }.data.toList), (10, I 0)], h := Heap.empty : St }) := by kernel_rfl
def Scn (q : Sig) (a b n : Int) (v : Str) (i : Int) : St := ⟨[(1, I a), (2, I b), (3, .own [I q.kind, I q.width, L q.chg 2 Chg.d]), (8, I n), (9, .str v), (10, I i)], .empty⟩
noncomputable def ncntas  : List Nat → Nat → Option Ans := scrAt []
theorem ncnta [Lay] (q : Sig) (a b n : Int) (v : Str) (i : Int) (J : St → Prop) (K : D → Prop) : runS (En Tryd.f70) (fi Tryd.f70 K) (ncntas ) lv70 200 [.code [1, 1, 0, 1, 0, 0], stp [1, 2, 3, 8, 9, 10] J, .blk 0, .code [1, 1, 1]] (Scn q a b n v i) =
  (q.chg.length ≤ lenM → bif decide (i < (↑q.chg.length : Int)) then (0 ≤ i ∧ i < (↑q.chg.length : Int)) ∧ bif bif decide ((q.chg.getD i.toNat default).time ≥ a) then decide ((q.chg.getD i.toNat default).time ≤ b) else false then (0 ≤ i ∧ i < (↑q.chg.length : Int)) ∧ J { sl := [(1, I a), (2, I b), (3, .own [I q.kind, I q.width, L q.chg 2 Chg.d]), (8, I (addI .i64 n 1)), (9, .str (q.chg.getD i.toNat default).val), (10, I (addI .i64 i 1))], h := Heap.empty : St } else J { sl := [(1, I a), (2, I b), (3, .own [I q.kind, I q.width, L q.chg 2 Chg.d]), (8, I n), (9, .str v), (10, I (addI .i64 i 1))], h := Heap.empty : St } else K (.tup [I n, .str v])) := by kernel_rfl
theorem F83 : OkF 83 Tryd.f83 := ⟨by kernel_rfl, by kernel_rfl, by kernel_rfl⟩
def lv83 : List (List Nat × List Nat) := []
noncomputable def nlvs  : List Nat → Nat → Option Ans := scrAt []
theorem nlv [Lay] (q : Str) (K : D → Prop) : runS (En Tryd.f83) (fi Tryd.f83 K) (nlvs ) lv83 200 [.code []] ⟨argSlots 0 [.str q], .empty⟩ =
  (bif q == { data := #[48] : ByteArray }.data.toList then K (.str { data := #[95] : ByteArray }.data.toList) else bif q == { data := #[49] : ByteArray }.data.toList then K (.str { data := #[45] : ByteArray }.data.toList) else K (.str q)) := by kernel_rfl
def szB (a b : Int) : Bool := decide (1 ≤ a ∧ a ≤ 1099511627776 ∧ 1 ≤ b ∧ b ≤ 200)
theorem szB_eq (a b : Int) : (bif bif bif decide (a ≥ 1) then decide (a ≤ 1099511627776) else false then decide (b ≥ 1) else false then decide (b ≤ 200) else false) = szB a b := by
  unfold szB
  rw [Bool.eq_iff_iff]; simp [and_assoc]
theorem c44 [Lay] (a b : Int) : Pure PP 44 [I a, I b] (B (szB a b)) := pu F44 (by kernel_rfl) (of_eq (nsz a b _) (by rw [szB_eq]; exact Wk.refl _))
theorem c47 [Lay] (a b : Int) : Pure PP 47 [I a, I b] (B (szB a b)) := pu F47 (by kernel_rfl) (of_eq (nft a b _) (by rw [szB_eq]; exact Wk.refl _))
def lbBad (c : UInt8) : Bool := bif decide ((c.toNat : Int) < 32) then true else decide ((c.toNat : Int) > 126)
def lnB (l : Ln) : Bool := l.lab.all (fun c => !lbBad c) && decide (0 ≤ l.base ∧ l.base ≤ 2 ∧ l.lab.length ≤ 64)
theorem c58 [Lay] (l : Ln) : Pure PP 58 [l.d] (B (lnB l)) := by
  refine pu F58 (by kernel_rfl) (of_eq (nla l _) fun hl => ?_)
  refine at_le (st' := Sla l ((0 : Nat) : Int)) ?_ ((StLe.refl _ _).cast (by kernel_rfl))
  refine lp (fn := Tryd.f58) (fun i : Nat => i ≤ l.lab.length ∧ l.lab.all (fun c => !lbBad c) = (l.lab.drop i).all (fun c => !lbBad c)) (fun i => Sla l i) (fun i => l.lab.length - i) [1, 7, 8, 9] (by kernel_rfl) (fun i hi => of_eq (nlaa l i _ _) (cond_intro (fun hlt => ?_) fun hge => fun _ => ?_)) 0 ⟨Nat.zero_le _, rfl⟩
  · have hlt := ltI hlt
    obtain ⟨_, he⟩ := hi
    rw [add1 hlt hl, Int.toNat_natCast]
    have hin : (0 : Int) ≤ (i : Int) ∧ (i : Int) < (l.lab.length : Int) := ⟨by omega, by omega⟩
    rw [all_drop hlt] at he
    refine ⟨hin, cond_intro (fun h => ?_) fun h => ?_⟩
    · have h : lbBad (l.lab.getD i default) = true := h
      unfold lnB
      rw [he, h]; exact Wk.refl _
    · have h : lbBad (l.lab.getD i default) = false := h
      exact Nx.mk (i + 1) ⟨hlt, by rw [he, h]; rfl⟩ (by omega)
  · unfold lnB
    rw [hi.2, List.drop_of_length_le (geI hge)]
    have : (bif bif decide (l.base ≥ 0) then decide (l.base ≤ 2) else false then decide ((l.lab.length : Int) ≤ 64) else false) = (([] : Str).all (fun c => !lbBad c) && decide (0 ≤ l.base ∧ l.base ≤ 2 ∧ l.lab.length ≤ 64)) := by
      rw [Bool.eq_iff_iff]; simp [and_assoc]; omega
    rw [this]; exact Wk.refl _
/-- The last tick drawn. -/
def lastC (frm stp cols fin : Int) : Int := min (frm + cols * stp - 1) fin
theorem mul64 {a b : Int} (h : -9223372036854775808 ≤ a * b) (k : a * b ≤ 9223372036854775807) : mulI .i64 a b = a * b := IntWalk.i64_in _ ⟨h, k⟩
theorem mul_le {a b m n : Int} (h0 : 0 ≤ a) (h1 : a ≤ m) (h2 : 0 ≤ b) (h3 : b ≤ n) : 0 ≤ a * b ∧ a * b ≤ m * n := ⟨Int.mul_nonneg h0 h2, Int.mul_le_mul h1 h3 h2 (by omega)⟩
theorem c32 [Lay] (frm stp cols fin : Int) (h1 : 0 ≤ frm ∧ frm ≤ 1099511627777) (h2 : 0 ≤ stp ∧ stp ≤ 1099511627776) (h3 : 0 ≤ cols ∧ cols ≤ 200) : Pure PP 32 [.agg [I frm, I stp, I cols, I fin]] (I (lastC frm stp cols fin)) := by
  obtain ⟨m1, m2⟩ := mul_le h3.1 h3.2 h2.1 h2.2
  refine pu F32 (by kernel_rfl) (of_eq (nlast frm stp cols fin _) ?_)
  rw [mul64 (by omega) (by omega), add64 (by omega) (by omega), sub64 (by omega) (by omega)]
  have : (if frm + cols * stp - 1 < fin then frm + cols * stp - 1 else fin) = lastC frm stp cols fin := by
    unfold lastC; omega
  rw [this]; exact Wk.refl _
theorem repL_blk (n : Nat) : Lib.repeatL ([32] : Str) n = blk n := by
  induction n with
  | zero => rfl
  | succ n ih =>
    unfold blk at ih ⊢
    rw [List.replicate_succ, ← ih]
    simp [Lib.repeatL, List.replicate_succ]
theorem c64 [Lay] (q : Str) (n : Nat) (h0 : 0 < n) (hq : q.length ≤ 1000000) (hn : n ≤ 1000000) : Pure PP 64 [.str q, I n] (.str (fitS q n)) := by
  refine pu F64 (by kernel_rfl) (of_eq (nfi q n _) fun _ => ?_)
  unfold fitS
  refine cond_intro (fun h => ?_) fun h => fun _ => ?_
  · have h : q.length > n := by have := of_decide_eq_true h; omega
    rw [if_pos h, sub64 (by omega) (by omega), show ((n : Int) - 1).toNat = n - 1 by omega]
    refine ⟨⟨by omega, by omega, by omega⟩, by rw [List.drop_zero, List.length_take]; unfold strM; omega, Wk.refl _⟩
  · have h : ¬ q.length > n := by have := of_decide_eq_false h; omega
    rw [if_neg h, sub64 (by omega) (by omega), show ((n : Int) - (q.length : Int)).toNat = n - q.length by omega]
    have hr : Lib.repeatL ({ data := #[32] } : ByteArray).data.toList (n - q.length) = blk (n - q.length) := repL_blk _
    refine ⟨PureW.mk ?_, ?_, ?_⟩
    · have := cRepZ [32] ((n : Int) - (q.length : Int)) ⟨by omega, by omega⟩ (by simp; omega)
      rw [show ((n : Int) - (q.length : Int)).toNat = n - q.length by omega] at this
      exact this
    · rw [hr]; unfold blk strM; rw [List.length_replicate]; omega
    · rw [hr]; exact Wk.refl _
theorem c49 [Lay] (a : Int) (h : a ≤ 1000000) : Pure PP 49 [I a] (.str (blk a.toNat)) := by
  refine pu F49 (by kernel_rfl) (of_eq (nbl a _) ?_)
  refine lp (fn := Tryd.f49) (fun i : Nat => i ≤ a.toNat) (fun i => Sbl a (blk i) i) (fun i => a.toNat - i) [0, 3, 4] (by kernel_rfl) (fun i hi => of_eq (nbla a _ i _ _) (cond_intro (fun hlt => ?_) fun hge => ?_)) 0 (Nat.zero_le _)
  · have hlt : (i : Int) < a := by simpa using hlt
    have ha : addI .i64 (i : Int) 1 = ((i + 1 : Nat) : Int) := by rw [add64 (by omega) (by omega)]; rfl
    rw [ha]
    refine ⟨by unfold blk; rw [List.length_replicate]; unfold strM; omega, Nx.of (i + 1) (by omega) (by omega) ?_⟩
    unfold Sbl blk
    rw [List.replicate_succ']
    exact StLe.refl _ _
  · have hge : ¬ (i : Int) < a := by simpa using hge
    rw [show i = a.toNat by omega]
    exact Wk.refl _
/-- The last change's value from a to b. -/
def lastV (l : List Chg) (a b : Int) : Str := l.foldl (fun v x => if x.time ≥ a ∧ x.time ≤ b then x.val else v) []
theorem c70 [Lay] (q : Sig) (a b : Int) : Pure PP 70 [q.d, I a, I b] (.tup [I (cntR q.chg a b), .str (lastV q.chg a b)]) := by
  refine pu F70 (by kernel_rfl) (of_eq (ncnt q a b _) ?_)
  refine lp (fn := Tryd.f70) (fun z : Nat × Nat × Str => z.1 ≤ q.chg.length ∧ z.2.1 ≤ z.1 ∧ cntR q.chg a b = z.2.1 + cntR (q.chg.drop z.1) a b ∧ lastV q.chg a b = (q.chg.drop z.1).foldl (fun v x => if x.time ≥ a ∧ x.time ≤ b then x.val else v) z.2.2) (fun z => Scn q a b z.2.1 z.2.2 z.1) (fun z => q.chg.length - z.1) [1, 2, 3, 8, 9, 10] (by kernel_rfl) (fun z hz => of_eq (ncnta q a b z.2.1 z.2.2 z.1 _ _) fun hl => ?_) (0, 0, []) ⟨Nat.zero_le _, Nat.le_refl _, by simp, rfl⟩
  obtain ⟨i, n, v⟩ := z
  obtain ⟨hi, hn, hc, hv⟩ := hz
  simp only at hi hn hc hv ⊢
  refine cond_intro (fun hlt => ?_) fun hge => ?_
  · have hlt := ltI hlt
    have hin : (0 : Int) ≤ (i : Int) ∧ (i : Int) < (q.chg.length : Int) := ⟨by omega, by omega⟩
    rw [add1 hlt hl, Int.toNat_natCast]
    rw [drop_cons _ _ hlt] at hc hv
    rw [List.foldl_cons] at hv
    have hcc : ∀ (x : Chg) (r : List Chg), cntR (x :: r) a b = (if x.time ≥ a ∧ x.time ≤ b then 1 else 0) + cntR r a b := fun x r => by
      unfold cntR
      rw [List.filter_cons]
      by_cases h : x.time ≥ a ∧ x.time ≤ b
      · rw [if_pos h, decide_eq_true h.1, decide_eq_true h.2, Bool.and_self, if_pos rfl, List.length_cons]; omega
      · rw [if_neg h, if_neg (by simpa using h)]; omega
    rw [hcc] at hc
    generalize q.chg.getD i default = x at hc hv ⊢
    have hcb : (bif decide (x.time ≥ a) then decide (x.time ≤ b) else false) = decide (x.time ≥ a ∧ x.time ≤ b) := by
      rw [Bool.eq_iff_iff]; simp
    rw [hcb]
    refine ⟨hin, cond_intro (fun h => ⟨hin, ?_⟩) fun h => ?_⟩
    · have h := of_decide_eq_true h
      rw [if_pos h] at hc hv
      have h1 : addI .i64 (n : Int) 1 = ((n + 1 : Nat) : Int) := by unfold lenM at hl; rw [add64 (by omega) (by omega)]; omega
      rw [h1]
      exact Nx.mk (i + 1, n + 1, x.val) ⟨hlt, by simp only; omega, by simp only; omega, hv⟩ (by simp only; omega)
    · have h := of_decide_eq_false h
      rw [if_neg h] at hc hv
      exact Nx.mk (i + 1, n, v) ⟨hlt, by simp only; omega, by simp only; omega, hv⟩ (by simp only; omega)
  · rw [List.drop_of_length_le (geI hge)] at hc hv
    rw [hc, hv]; exact Wk.refl _
def lvR (q : Str) : Str := if q = [48] then [95] else if q = [49] then [45] else q
theorem c83 [Lay] (q : Str) : Pure PP 83 [.str q] (.str (lvR q)) := by
  refine pu F83 (by kernel_rfl) (of_eq (nlv q _) ?_)
  unfold lvR
  refine cond_intro (fun h => ?_) fun h => cond_intro (fun h2 => ?_) fun h2 => ?_
  · have h : q = [48] := by simpa using h
    rw [if_pos h]; exact Wk.refl _
  · have h : ¬ q = [48] := by simpa using h
    have h2 : q = [49] := by simpa using h2
    rw [if_neg h, if_pos h2]; exact Wk.refl _
  · have h : ¬ q = [48] := by simpa using h
    have h2 : ¬ q = [49] := by simpa using h2
    rw [if_neg h, if_neg h2]; exact Wk.refl _
end Go.Proofs.YtpcbjkjgjoemaaaDoor.S1
/- Lines: the columns. -/
namespace Go.Proofs.YtpcbjkjgjoemaaaDoor.S1
open Go Go.Ab Go.Proofs
theorem F59 : OkF 59 Tryd.f59 := ⟨by kernel_rfl, by kernel_rfl, by kernel_rfl⟩
def lv59 : List (List Nat × List Nat) := [([1, 1, 0], [1, 2, 4])]
noncomputable def nalls  : List Nat → Nat → Option Ans := scrAt []
theorem nall [Lay] (h : Heap) (l : Nat) (a b c d : Int) (K : D → Heap → Prop) : runS (En Tryd.f59) (fh Tryd.f59 K) (nalls ) lv59 200 [.code []] ⟨argSlots 0 [.agg [I a, I b, I c, I d], .yl l], h⟩ =
  (At (En Tryd.f59) (fh Tryd.f59 K) [It.code [1, 1, 0], It.blk 0] { sl := [(1, D.yl l), (2, .own [I a, I b, I c, I d]), (4, I 0)], h := h : St }) := by kernel_rfl
def Sall (h : Heap) (l : Nat) (a b c d j : Int) : St := ⟨[(1, .yl l), (2, .own [I a, I b, I c, I d]), (4, I j)], h⟩
noncomputable def nallas  : List Nat → Nat → Option Ans := scrAt []
theorem nalla [Lay] (h : Heap) (l : Nat) (a b c d j : Int) (J : St → Prop) (K : D → Heap → Prop) : runS (En Tryd.f59) (fh Tryd.f59 K) (nallas ) lv59 200 [.code [1, 1, 0, 0], stp [1, 2, 4] J, .blk 0] (Sall h l a b c d j) =
  (bif decide (j < c) then
  bif !decide (addI .i64 a (mulI .i64 j b) > d) then
    CallY PP l [.agg [I j, I (addI .i64 a (mulI .i64 j b)), I (if d < subI .i64 (addI .i64 (addI .i64 a (mulI .i64 j b)) b) 1 then d else subI .i64 (addI .i64 (addI .i64 a (mulI .i64 j b)) b) 1)]] h fun v h' =>
      At (En Tryd.f59) (fh Tryd.f59 K) [It.ops [1, 1, 0, 0, 1, 0, 0, 1, 0] 18, It.code [1, 1, 0, 0, 1, 0, 0, 1, 1], It.blk 1, It.code [1, 1, 0, 0, 1, 1], stp [1, 2, 4] J, It.blk 0]
        {
          sl :=
            [(36, bif isLp (D.may 4 false v) 36 then D.junk else D.may 4 false v), (35, D.may 4 false (.agg [I j, I (addI .i64 a (mulI .i64 j b)), I (if d < subI .i64 (addI .i64 (addI .i64 a (mulI .i64 j b)) b) 1 then d else subI .i64 (addI .i64 (addI .i64 a (mulI .i64 j b)) b) 1)])), (34, D.may 4 false (I (if d < subI .i64 (addI .i64 (addI .i64 a (mulI .i64 j b)) b) 1 then d else subI .i64 (addI .i64 (addI .i64 a (mulI .i64 j b)) b) 1))), (33, D.may 4 false (I d)), (32, D.may 4 false (D.lp 2 3)), (31, D.may 4 false (I (subI .i64 (addI .i64 (addI .i64 a (mulI .i64 j b)) b) 1))), (30, D.may 4 false (I (addI .i64 (addI .i64 a (mulI .i64 j b)) b))), (29, D.may 4 false (I b)), (28, D.may 4 false (D.lp 2 1)), (27, D.may 4 false (I (addI .i64 a (mulI .i64 j b)))), (26, D.may 4 false (I (addI .i64 a (mulI .i64 j b)))), (25, D.may 4 false (I j)), (24, D.may 4 false (D.yl l)), (23, B (decide (addI .i64 a (mulI .i64 j b) > d))), (22, B (decide (addI .i64 a (mulI .i64 j b) > d))), (21, I d), (20, D.lp 2 3), (19, I (addI .i64 a (mulI .i64 j b))), (5, I (addI .i64 a (mulI .i64 j b))), (18, I (addI .i64 a (mulI .i64 j b))), (17, I (mulI .i64 j b)), (16, I b), (14, I j), (13, I a), (9, B (decide (j < c))), (8, I c), (6, I j), (1, D.yl l), (2, .own [I a, I b, I c, I d]), (4, I j)],
          h := h' : St }
  else bif bif decide (addI .i64 a (mulI .i64 j b) > d) then true else false then K (.tup []) h else J { sl := [(1, D.yl l), (2, .own [I a, I b, I c, I d]), (4, I (addI .i64 j 1))], h := h : St }
 else K (.tup []) h) := by kernel_rfl
noncomputable def nallbs  : List Nat → Nat → Option Ans := scrAt []
theorem nallb [Lay] (h : Heap) (l : Nat) (a b c d j x y z u p : Int) (t q : Bool) (J : St → Prop) (K : D → Heap → Prop) : runS (En Tryd.f59) (fh Tryd.f59 K) (nallbs ) lv59 200 [.ops [1, 1, 0, 0, 1, 0, 0, 1, 0] 18, .code [1, 1, 0, 0, 1, 0, 0, 1, 1], .blk 1, .code [1, 1, 0, 0, 1, 1], stp [1, 2, 4] J, .blk 0] ⟨[(36, .may 4 false (B true)), (35, .may 4 false (.agg [I j, I x, I y])), (34, .may 4 false (I y)), (33, .may 4 false (I d)), (32, .may 4 false (.lp 2 3)), (31, .may 4 false (I z)), (30, .may 4 false (I u)), (29, .may 4 false (I b)), (28, .may 4 false (.lp 2 1)), (27, .may 4 false (I x)), (26, .may 4 false (I x)), (25, .may 4 false (I j)), (24, .may 4 false (.yl l)), (23, B t), (22, B t), (21, I d), (20, .lp 2 3), (19, I x), (5, I x), (18, I x), (17, I p), (16, I b), (14, I j), (13, I a), (9, B q), (8, I c), (6, I j), (1, .yl l), (2, .own [I a, I b, I c, I d]), (4, I j)], h⟩ =
  (bif bif t then true else false then K (.tup []) h else J { sl := [(1, D.yl l), (2, .own [I a, I b, I c, I d]), (4, I (addI .i64 j 1))], h := h : St }) := by kernel_rfl
theorem allCall [Lay] (frm stp cols fin : Int) (l : Nat) (H : Nat → Heap) (h1 : 0 ≤ frm ∧ frm ≤ 1099511627776) (h2 : 1 ≤ stp ∧ stp ≤ 1099511627776) (h3 : 0 ≤ cols ∧ cols ≤ 200) (h4 : 0 ≤ fin ∧ fin ≤ 1099511627776)
    (hy : ∀ (j : Nat) (K : D → Heap → Prop), j < nCol stp fin cols.toNat frm → K (.bool true) (H (j + 1)) → CallY PP l [.agg [I j, I (frm + (j : Int) * stp), I (hiC (frm + (j : Int) * stp) stp fin)]] (H j) K) :
    CallA PP 59 [.agg [I frm, I stp, I cols, I fin], .yl l] (H 0) fun _ h => h = H (nCol stp fin cols.toNat frm) := by
  have o := F59
  have hle := nCol_le stp fin cols.toNat frm
  refine callA_of_runS hmix o.hf o.hb o.hn (by kernel_rfl) (of_eq (nall (H 0) l frm stp cols fin _) ?_)
  refine lp (fn := Tryd.f59) (fun j : Nat => j ≤ nCol stp fin cols.toNat frm) (fun j => Sall (H j) l frm stp cols fin j) (fun j => nCol stp fin cols.toNat frm - j) [1, 2, 4] (by kernel_rfl) (fun j hj => of_eq (nalla (H j) l frm stp cols fin j _ _) ?_) 0 (Nat.zero_le _)
  have hj2 : (j : Int) ≤ 200 := by omega
  obtain ⟨m1, m2⟩ := mul_le (a := (j : Int)) (by omega) hj2 (show (0 : Int) ≤ stp by omega) h2.2
  have hx : addI .i64 frm (mulI .i64 (j : Int) stp) = frm + (j : Int) * stp := by
    rw [mul64 (by omega) (by omega), add64 (by omega) (by omega)]
  rw [hx]
  generalize hxx : frm + (j : Int) * stp = x at *
  have hh : (if fin < subI .i64 (addI .i64 x stp) 1 then fin else subI .i64 (addI .i64 x stp) 1) = hiC x stp fin := by
    rw [add64 (by omega) (by omega), sub64 (by omega) (by omega)]
    unfold hiC; omega
  rw [hh]
  refine cond_intro (fun hlt => ?_) fun hge => ?_
  · have hlt : (j : Int) < cols := of_decide_eq_true hlt
    rcases Nat.lt_or_ge j (nCol stp fin cols.toNat frm) with hjn | hjn
    · have hin := nCol_in stp fin cols.toNat frm j hjn
      rw [hxx] at hin
      have hd : decide (x > fin) = false := decide_eq_false (by omega)
      rw [hd]
      simp only [Bool.not_false, cond_true]
      have := hy j
      rw [hxx] at this
      refine this _ hjn ?_
      refine runS_sound hmix _ _ _ (of_eq (nallb (H (j + 1)) l frm stp cols fin j x _ _ _ _ _ _ _ _) ?_)
      simp only [cond_false]
      have h1 : addI .i64 (j : Int) 1 = ((j + 1 : Nat) : Int) := by rw [add64 (by omega) (by omega)]; omega
      rw [h1]
      exact Nx.mk (j + 1) hjn (by omega)
    · have hjn : j = nCol stp fin cols.toNat frm := by omega
      rcases nCol_end stp fin cols.toNat frm with h | h
      · omega
      · rw [← hjn, hxx] at h
        have hd : decide (x > fin) = true := decide_eq_true h
        rw [hd]
        simp only [Bool.not_true, cond_false, cond_true]
        rw [hjn]
  · have hge : ¬ (j : Int) < cols := of_decide_eq_false hge
    have : j = nCol stp fin cols.toNat frm := by omega
    rw [this]
end Go.Proofs.YtpcbjkjgjoemaaaDoor.S1
