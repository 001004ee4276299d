/- strings.Builder: its box and its bytes. -/
import Derived.Test.YtmlhaikblfjghaaGreatDoorCCI4
import Derived.Shelf.Strings.Builder1
import Derived.Shelf.RegionOpen
import Derived.Ground.NamesProg
import Derived.Shelf.Strings.SlTrimAscii
import Derived.Shelf.Strings.Repeat
import Derived.Lib.ItoaLen
import Derived.Shelf.Strconv.Itoa4
import Derived.Lib.AppendIntMem
namespace Go.Proofs
open Go.Shelf
theorem Tryz.sbInfo : (Tryz.prog.info? 102).map (·.size) = some 2 := by kernel_rfl
theorem Tryz.sbLies : liesAt Tryz.prog Tryz.prog.depth 102 (2 / Tryz.prog.cellsOf 102) 0 102 1 = true := by kernel_rfl
set_option maxHeartbeats 1000000 in
set_option maxRecDepth 100000 in
theorem Tryz.ccUsed (b : Nat) (w : World) (h0 : w.cell? ⟨b, 0, none⟩ = some (.pointer (some ⟨b, 0, none⟩))) :
    Calls Tryz.prog 58 #[.pointer (some ⟨b, 0, none⟩)] w fun e w' => e = .returned (.tuple #[]) ∧ w' = w := by
  obtain ⟨j, hj, _⟩ := Option.map_eq_some_iff.1 Tryz.sbInfo
  go_enter Tryz.func58, Tryz.ntmps58
  go_wp2
  rw [Lib.run_neq_ptr_same w _ Tryz.underlying100 hj]
  go_wp2
  go_end0
  exact ⟨rfl, rfl⟩
set_option maxHeartbeats 1000000 in
set_option maxRecDepth 100000 in
theorem Tryz.ccFresh (b : Nat) (w : World) (h0 : w.cell? ⟨b, 0, none⟩ = some (.pointer none)) (hsh : w.shape? b = some (102, 2)) (hfz : w.frozen? ⟨b, 0, none⟩ = false) :
    Calls Tryz.prog 58 #[.pointer (some ⟨b, 0, none⟩)] w fun e w' => e = .returned (.tuple #[]) ∧ w' = w.setCell ⟨b, 0, none⟩ (.pointer (some ⟨b, 0, none⟩)) := by
  obtain ⟨j, hj, hjs⟩ := Option.map_eq_some_iff.1 Tryz.sbInfo
  go_enter Tryz.func58, Tryz.ntmps58
  go_wp2
  rw [Lib.run_to_unsafe w ⟨b, 0, none⟩ Tryz.underlying100 Tryz.underlying129 hj (by rw [hjs]; decide) hsh (Nat.zero_lt_succ 1)]
  simp only [Result.andThen]
  rw [Oper.upon_value]
  go_wp2
  rw [run_callFunc_extern Tryz.func81 (by kernel_rfl) (by kernel_rfl) (by kernel_rfl) (e := Extern.AbiNoEscape.same) (by kernel_rfl)]
  rw [Lib.run_noEscape]
  simp only [Result.andThen]
  rw [Oper.upon_value]
  go_wp2
  rw [Lib.run_from_unsafe w ⟨b, 0, none⟩ Tryz.underlying129 Tryz.underlying100 hj hsh Tryz.sbLies]
  simp only [Result.andThen]
  rw [Oper.upon_value]
  go_wp2
  go_end0
  exact ⟨rfl, rfl⟩
end Go.Proofs
namespace Go.Proofs.YtmlhaikblfjghaaGreatDoor.S1
open Go Go.Ab Go.Proofs
abbrev encB (b : UInt8) : D := .int .u8 b.toNat
instance {b : UInt8} : DD (encB b) := inferInstanceAs (DD (.int _ _))
abbrev TB : Nat := 102
abbrev TU : Nat := 5
/-- A Builder with these bytes; a: its first word: nil, or itself. -/
def hSb (a : D) (es : Str) : Heap := ⟨upd (fun _ => none) 0 (some (.litT TB [a, .bv TU 0 es.length])), 1, upd (fun _ => none) 0 (some es.length), 1, upd (fun _ => none) 0 (some (cv es encB))⟩
theorem setCell_other {w : World} {b k : Nat} {v : Value} (h : k ≠ b) : (w.setCell ⟨b, 0, none⟩ v).heap[k]? = w.heap[k]? := by
  simp [World.setCell, Array.getElem?_modify, Ne.symm h]
theorem setCell_at {w : World} {b T : Nat} {vals : Array Value} {z : Nat × Nat} {v : Value} (h : w.heap[b]? = some (.cells vals T z)) : (w.setCell ⟨b, 0, none⟩ v).heap[b]? = some (.cells (vals.setIfInBounds 0 v) T z) := by
  simp [World.setCell, Array.getElem?_modify, h]
theorem e58 [Lay] (a : D) (ha : a = .nilp ∨ a = .bp 0 0) (es : Str) : Does PP 58 [.bp 0 0] (hSb a es) (.tup []) (hSb (.bp 0 0) es) := by
  refine Does.of_calls ⟨Tryz.f58, by kernel_rfl, by kernel_rfl, by kernel_rfl⟩ fun g U w vs i hs => ?_
  simp only [Rs, R] at hs
  obtain ⟨_, _, rfl, ⟨b, hmu, rfl⟩, rfl⟩ := hs
  obtain ⟨b', e1, ⟨vals, hb, hv⟩, hU, hσ⟩ := i.box 0 _ (show (hSb a es).box 0 = some (.litT TB [a, .bv TU 0 es.length]) from rfl)
  rw [hmu] at e1; cases e1
  rw [show Rs g [a, .bv TU 0 es.length] vals.toList ↔ ∃ v r, vals.toList = v :: r ∧ R g a v ∧ Rs g [.bv TU 0 es.length] r from by simp only [Rs]] at hv
  obtain ⟨v0, r, hvl, h0, h1⟩ := hv
  have hvals : vals = (v0 :: r).toArray := by rw [← hvl]
  have hr1 : r.length = 1 := h1.length
  have hlt : b < w.heap.size := lt_of_heap hb
  rcases ha with rfl | rfl
  · simp only [R] at h0
    subst h0
    have hc0 : w.cell? ⟨b, 0, none⟩ = some (.pointer none) := by simp [World.cell?, hb, hvals]
    have hsh : w.shape? b = some (TB, 2) := by simp [World.shape?, hb, hvals, hr1]
    have hfz : w.frozen? ⟨b, 0, none⟩ = false := by simp [World.frozen?, hb]
    refine (Tryz.ccFresh b w hc0 hsh hfz).mono fun e w' ⟨he, hw⟩ => ?_
    subst hw
    have hb' := setCell_at (v := .pointer (some ⟨b, 0, none⟩)) hb
    have i' := Inv.row (row' := .litT TB [.bp 0 0, .bv TU 0 es.length]) i hmu hb' ⟨rfl, by
      rw [hvals]
      simp only [List.setIfInBounds_toArray, List.set_cons_zero, Rs]
      exact ⟨_, _, rfl, by simp only [R]; exact ⟨b, hmu, rfl⟩, by simpa only [Rs] using h1⟩⟩ (by simp) (fun k hk _ => setCell_other hk)
    refine ⟨.tuple #[], g, he, by simp [R, Rs], i', Grow.refl U g, rfl, rfl, rfl, by simp, fun k hk => setCell_other fun h => hU (h ▸ hk), fun k e => ?_⟩
    by_cases hk : k = b
    · subst hk; rw [hb] at e; cases e
    · rw [setCell_other hk]; exact e
  · simp only [R] at h0
    obtain ⟨b2, h2, rfl⟩ := h0
    rw [hmu] at h2; cases h2
    have hc0 : w.cell? ⟨b, 0, none⟩ = some (.pointer (some ⟨b, 0, none⟩)) := by simp [World.cell?, hb, hvals]
    refine (Tryz.ccUsed b w hc0).mono fun e w' ⟨he, hw⟩ => ?_
    subst hw
    exact ⟨.tuple #[], g, he, by simp [R, Rs], i, Grow.refl U g, Kept.refl U _⟩
end Go.Proofs.YtmlhaikblfjghaaGreatDoor.S1
/- strings.Builder: writing, and its string. -/
namespace Go.Proofs
open Go.Shelf
end Go.Proofs
namespace Go.Proofs.YtmlhaikblfjghaaGreatDoor.S1
open Go Go.Ab Go.Proofs
theorem F48 : OkF 48 Tryz.f48 := ⟨by kernel_rfl, by kernel_rfl, by kernel_rfl⟩
def lv48 : List (List Nat × List Nat) := []
noncomputable def nWSs (es : Str) : List Nat → Nat → Option Ans := scrAt [([1, 0], 1, Ans.eff (.tup []) (hSb (D.bp 0 0) es))]
theorem nWS [Lay] (a : D) (es q : Str) (K : D → Heap → Prop) : runS (En Tryz.f48) (fh Tryz.f48 K) (nWSs es) lv48 200 [.code []] ⟨argSlots 0 [.bp 0 0, .str q], hSb a es⟩ =
  (Does PP 58 [D.bp 0 0] { box := upd (fun _ => none) 0 (some (Row.litT TB [a, D.bv TU 0 (List.length es)])), nl := 1, hw := upd (fun _ => none) 0 (some (List.length es)), nt := 1, vw := upd (fun _ => none) 0 (some (cv es encB)) : Heap } (.tup []) (hSb (D.bp 0 0) es) ∧ (upd (fun _ => none) 0 (some (List.length es)) 0 = some (List.length es) ∧ (List.length es + List.length q) * 1 ≤ roomM) ∧ True ∧ (List.length q ≤ strM → K (.tup [I (↑(List.length q) : Int), D.nili]) { box := upd (upd (fun _ => none) 0 (some (Row.litT TB [D.bp 0 0, D.bv TU 0 (List.length es)]))) 0 (some (Row.litT TB [D.bp 0 0, D.bv TU 0 (List.length es + List.length q)])), nl := 1, hw := upd (upd (fun _ => none) 0 (some (List.length es))) 0 (some (List.length es + List.length q)), nt := 1, vw := upd (upd (fun _ => none) 0 (some (cv es encB))) 0 (some (catG (List.length es) (cv es encB) (strG q))) : Heap })) := by kernel_rfl
theorem cat_cvs {es q : Str} {i : Nat} : catG es.length (cv es encB) (strG q) i = cv (es ++ q) encB i := by
  unfold catG cv strG
  rcases Nat.lt_or_ge i es.length with h | h
  · rw [blt_tt.2 h]; simp [List.getD, List.getElem?_append_left h]
  · rw [blt_ff.2 h]
    simp only [cond_false, List.getD, List.getElem?_append_right h]
    rfl
theorem e48 [Lay] (a : D) (ha : a = .nilp ∨ a = .bp 0 0) (es q : Str) (hl : es.length + q.length ≤ 1000000000) : Does PP 48 [.bp 0 0, .str q] (hSb a es) (.tup [I q.length, .nili]) (hSb (.bp 0 0) (es ++ q)) := by
  refine du F48 (by kernel_rfl) (of_eq (nWS a es q _) ⟨e58 a ha es, ⟨upd_same _ _ _, by unfold roomM; omega⟩, trivial, fun _ => ?_⟩)
  simp only [hSb, List.length_append]
  rw [upd_upd, upd_upd, upd_upd]
  exact RetLe.of (Wk.refl _) (HeapLe.vec (upd_same _ _ _) (VwLe.eq fun i hi => cat_cvs))
/-- The heap of which nothing is known, with one box and one array of old. -/
def h11 : Heap := ⟨fun _ => none, 1, fun _ => none, 1, fun _ => none⟩
end Go.Proofs.YtmlhaikblfjghaaGreatDoor.S1
/- strings.Trim, strings.Repeat. -/
namespace Go.Proofs
open Go.Shelf
def Tryz.rep_ren : Go.Shelf.Ren := ⟨fun | 105 => 37 | 212 => 45 | 99 => 46 | 165 => 47 | 166 => 48 | 170 => 49 | 169 => 50 | 263 => 55 | 264 => 56 | 206 => 57 | 240 => 58 | 241 => 59 | 276 => 81 | 277 => 82 | n => n, fun | 9 => 9 | 3 => 3 | 4 => 4 | 20 => 20 | 0 => 0 | 46 => 96 | 109 => 97 | 5 => 5 | 72 => 102 | 76 => 106 | 51 => 115 | 146 => 116 | 53 => 118 | 148 => 119 | 70 => 100 | 37 => 80 | 75 => 105 | 127 => 121 | 164 => 129 | 80 => 109 | n => n, fun | n => n⟩
theorem Tryz.rep : Go.Proofs.Lays.n105 Tryz.prog Tryz.rep_ren := {
  mixed := by kernel_rfl
  f99 := Tryz.func46.trans (congrArg some (by kernel_rfl))
  f105 := Tryz.func37.trans (congrArg some (by kernel_rfl))
  f165 := Tryz.func47.trans (congrArg some (by kernel_rfl))
  f166 := Tryz.func48.trans (congrArg some (by kernel_rfl))
  f169 := Tryz.func50.trans (congrArg some (by kernel_rfl))
  f170 := Tryz.func49.trans (congrArg some (by kernel_rfl))
  f206 := Tryz.func57.trans (congrArg some (by kernel_rfl))
  f212 := Tryz.func45.trans (congrArg some (by kernel_rfl))
  f240 := Tryz.func58.trans (congrArg some (by kernel_rfl))
  f241 := Tryz.func59.trans (congrArg some (by kernel_rfl))
  f263 := Tryz.func55.trans (congrArg some (by kernel_rfl))
  f264 := Tryz.func56.trans (congrArg some (by kernel_rfl))
  f276 := Tryz.func81.trans (congrArg some (by kernel_rfl))
  f277 := Tryz.func82.trans (congrArg some (by kernel_rfl))
  t0 := Tryz.underlying0
  a0 := Tryz.isAgg0
  z0 := Tryz.sizeOf0
  v0 := Tryz.zeroValue0
  t3 := Tryz.underlying3
  a3 := Tryz.isAgg3
  z3 := Tryz.sizeOf3
  v3 := Tryz.zeroValue3
  t4 := Tryz.underlying4
  a4 := Tryz.isAgg4
  z4 := Tryz.sizeOf4
  v4 := Tryz.zeroValue4
  t5 := Tryz.underlying5
  a5 := Tryz.isAgg5
  z5 := Tryz.sizeOf5
  v5 := Tryz.zeroValue5
  t9 := Tryz.underlying9
  a9 := Tryz.isAgg9
  z9 := Tryz.sizeOf9
  v9 := Tryz.zeroValue9
  t20 := Tryz.underlying20
  a20 := Tryz.isAgg20
  z20 := Tryz.sizeOf20
  v20 := Tryz.zeroValue20
  t37 := Tryz.underlying80
  a37 := Tryz.isAgg80
  z37 := Tryz.sizeOf80
  v37 := Tryz.zeroValue80
  t46 := Tryz.underlying96
  a46 := Tryz.isAgg96
  z46 := Tryz.sizeOf96
  v46 := Tryz.zeroValue96
  t51 := Tryz.underlying115
  a51 := Tryz.isAgg115
  z51 := Tryz.sizeOf115
  v51 := Tryz.zeroValue115
  t53 := Tryz.underlying118
  a53 := Tryz.isAgg118
  z53 := Tryz.sizeOf118
  v53 := Tryz.zeroValue118
  t70 := Tryz.underlying100
  a70 := Tryz.isAgg100
  z70 := Tryz.sizeOf100
  v70 := Tryz.zeroValue100
  t72 := Tryz.underlying102
  a72 := Tryz.isAgg102
  z72 := Tryz.sizeOf102
  v72 := Tryz.zeroValue102
  t75 := Tryz.underlying105
  a75 := Tryz.isAgg105
  z75 := Tryz.sizeOf105
  v75 := Tryz.zeroValue105
  t76 := Tryz.underlying106
  a76 := Tryz.isAgg106
  z76 := Tryz.sizeOf106
  v76 := Tryz.zeroValue106
  t109 := Tryz.underlying97
  a109 := Tryz.isAgg97
  z109 := Tryz.sizeOf97
  v109 := Tryz.zeroValue97
  t127 := Tryz.underlying121
  a127 := Tryz.isAgg121
  z127 := Tryz.sizeOf121
  v127 := Tryz.zeroValue121
  t146 := Tryz.underlying116
  a146 := Tryz.isAgg116
  z146 := Tryz.sizeOf116
  v146 := Tryz.zeroValue116
  t148 := Tryz.underlying119
  a148 := Tryz.isAgg119
  z148 := Tryz.sizeOf119
  v148 := Tryz.zeroValue119
  t164 := Tryz.underlying129
  a164 := Tryz.isAgg129
  z164 := Tryz.sizeOf129
  v164 := Tryz.zeroValue129 }
theorem Tryz.repX : Go.Proofs.Builder.Extra Tryz.prog Tryz.rep_ren := { sizeBuilder := by kernel_rfl, liesBuilder := by kernel_rfl, t5 := Tryz.underlying5, a5 := Tryz.isAgg5, z5 := Tryz.sizeOf5, v5 := Tryz.zeroValue5, infoByte := by kernel_rfl, cellsByte := by kernel_rfl, sizeByte := by kernel_rfl, neB5 := of_decide_eq_true (by kernel_rfl) }
end Go.Proofs
namespace Go.Proofs.YtmlhaikblfjghaaGreatDoor.S1
open Go Go.Ab Go.Proofs
/-- A function of the library that only computes. -/
theorem pureB [Lay] {f : Nat} {args : List D} {v : D} (ok : Callable PP f) [da : DS args] [dv : DD v] (h : ∀ (g : G) (w : World) (vs : List Value), Rs g args vs → ∃ x, R g v x ∧ Calls PP f vs.toArray w fun e w' => e = .returned x ∧ RowKit.Below w.heap.size w w') : Pure PP f args v :=
  ⟨ok, da.p, dv.p, fun g w vs _ sub hs => by
    obtain ⟨x, hx, hc⟩ := h g w vs hs
    refine hc.mono fun e w' ⟨he, hb⟩ => ⟨x, g.σ, he, R.mono ⟨fun _ _ h => h, fun _ _ h => h, fun _ k h => ⟨k, h, rfl, Nat.le_refl _, fun _ => rfl⟩⟩ _ _ hx, fun _ _ h => h, fun a y hy => ?_, fun _ _ h => .inl h, hb⟩
    obtain ⟨h1, h2⟩ := sub a y hy
    have hl : a.block < w.heap.size := World.block_lt_of_cell? w a h1
    exact ⟨(cell?_of_heap (hb.block _ hl)).trans h1, h2⟩⟩
theorem size_toArray (s : Str) : (⟨s.toArray⟩ : ByteArray).size = s.length := by show s.toArray.size = _; simp
theorem c37 [Lay] (s : Str) (n : Nat) (hn : s.length * n ≤ 1000000) (h0 : n ≤ 1000000) : Pure PP 37 [.str s, I n] (.str (Lib.repeatL s n)) := by
  refine pureB ⟨Tryz.f37, by kernel_rfl, by kernel_rfl, by kernel_rfl⟩ fun g w vs h => ?_
  simp only [Rs, R] at h
  obtain ⟨_, _, rfl, ⟨rfl, _⟩, _, _, rfl, rfl, rfl⟩ := h
  refine ⟨.string ⟨(Lib.repeatL s n).toArray⟩, by simp only [R, true_and]; rw [Lib.repeatL_length, Nat.mul_comm]; unfold strM; omega, ?_⟩
  exact Any.strings_Repeat Tryz.rep Tryz.repX ⟨s.toArray⟩ n w (by omega) (by rw [size_toArray]; omega)
end Go.Proofs.YtmlhaikblfjghaaGreatDoor.S1
/- Numbers drawn: the code's small functions. -/
namespace Go.Proofs.YtmlhaikblfjghaaGreatDoor.S1
open Go Go.Ab Go.Proofs
instance {f : Nat} {ds : List D} [h : DS ds] : DD (.mv f ds) := ⟨h.p⟩
instance {t : Nat} {m : String} : DD (.fnp t m) := ⟨trivial⟩
end Go.Proofs.YtmlhaikblfjghaaGreatDoor.S1
/- Decimals: numbers as digits and an exponent; the plain law. -/
namespace Go.Proofs.YtmlhaikblfjghaaGreatDoor.S1
open Go Go.Ab Go.Proofs
def dgt (c : UInt8) : Nat := c.toNat - 48
def isDg (c : UInt8) : Bool := decide (48 ≤ c.toNat ∧ c.toNat ≤ 57)
def natD : Str → Nat
  | [] => 0
  | c :: r => dgt c * 10 ^ r.length + natD r
theorem dgt_le {c : UInt8} (h : isDg c = true) : dgt c ≤ 9 := by
  unfold isDg at h
  have := of_decide_eq_true h
  unfold dgt; omega
def endOk (q : Str) : Prop := q = [] ∨ q.getLast? ≠ some 48
/-- A number: sign, digits, the exponent of the last digit. -/
structure Nm where (neg : Bool) (dig : Str) (ex : Int) deriving Inhabited, DecidableEq
def Nm.d (x : Nm) : D := .agg [B x.neg, L x.dig 1 encB, I x.ex]
def nm0 : Nm := ⟨false, [], 0⟩
/-- In units of 10 to the power of -3000. -/
def Nm.mag (x : Nm) : Int := (natD x.dig : Int) * (10 : Int) ^ (x.ex + 3000).toNat
def Nm.val (x : Nm) : Int := if x.neg then - x.mag else x.mag
def Nm.fst (x : Nm) : Int := x.ex + x.dig.length - 1
/-- Digits without zeros at the ends. -/
structure Nrm (x : Nm) : Prop where
  dg : x.dig.all isDg = true
  hd : x.dig.head? ≠ some 48
  lt : endOk x.dig
  z : x.dig = [] → x = nm0
theorem nm0_mag : nm0.mag = 0 := by
  unfold Nm.mag
  rw [show natD nm0.dig = 0 from rfl]
  exact Int.zero_mul _
end Go.Proofs.YtmlhaikblfjghaaGreatDoor.S1
/- Decimals: trimming and adding; the plain law. -/
namespace Go.Proofs.YtmlhaikblfjghaaGreatDoor.S1
open Go Go.Ab Go.Proofs
def zs (n : Nat) : Str := List.replicate n 48
theorem zs_len (n : Nat) : (zs n).length = n := by unfold zs; simp
/-- Without zeros in front. -/
def tL : Str → Str
  | [] => []
  | c :: r => if c = 48 then tL r else c :: r
def tR (q : Str) : Str := (tL q.reverse).reverse
theorem tL_spec : ∀ q : Str, ∃ n, q = zs n ++ tL q ∧ (tL q).head? ≠ some 48
  | [] => ⟨0, rfl, by simp [tL]⟩
  | c :: r => by
    rw [tL]
    by_cases h : c = 48
    · obtain ⟨n, h1, h2⟩ := tL_spec r
      rw [if_pos h]
      refine ⟨n + 1, ?_, h2⟩
      have : zs (n + 1) = 48 :: zs n := by unfold zs; rw [List.replicate_succ]
      rw [this, List.cons_append, ← h1, h]
    · rw [if_neg h]
      exact ⟨0, rfl, by rw [List.head?_cons]; intro e; exact h (Option.some.inj e)⟩
theorem tR_spec (q : Str) : ∃ n, q = tR q ++ zs n ∧ endOk (tR q) := by
  obtain ⟨n, h1, h2⟩ := tL_spec q.reverse
  refine ⟨n, ?_, ?_⟩
  · have := congrArg List.reverse h1
    rw [List.reverse_reverse, List.reverse_append] at this
    have hz : (zs n).reverse = zs n := by unfold zs; rw [List.reverse_replicate]
    rw [hz] at this
    exact this
  · right
    unfold tR
    rw [List.getLast?_reverse]
    exact h2
def trimF (x : Nm) : Nm :=
  if tR (tL x.dig) = [] then nm0 else ⟨x.neg, tR (tL x.dig), x.ex + ((tL x.dig).length - (tR (tL x.dig)).length : Nat)⟩
theorem tL_len (q : Str) : (tL q).length ≤ q.length := by
  obtain ⟨n, h, _⟩ := tL_spec q
  have := congrArg List.length h
  rw [List.length_append, zs_len] at this; omega
theorem tR_len (q : Str) : (tR q).length ≤ q.length := by
  have := tL_len q.reverse
  unfold tR
  rw [List.length_reverse] at *; omega
end Go.Proofs.YtmlhaikblfjghaaGreatDoor.S1
/- Decimals: the reference's sum; the plain law. -/
namespace Go.Proofs.YtmlhaikblfjghaaGreatDoor.S1
open Go Go.Ab Go.Proofs
/-- The reference's parts: the exponent of the first digit. -/
def Nm.pe (x : Nm) : Int := if x.dig = [] then 0 else x.fst
def Nm.p (x : Nm) : D := .agg [B x.neg, .str x.dig, I x.pe]
end Go.Proofs.YtmlhaikblfjghaaGreatDoor.S1
/- Decimals: texts read; the plain law. -/
namespace Go.Proofs.YtmlhaikblfjghaaGreatDoor.S1
open Go Go.Ab Go.Proofs
def spanD : Str → Str × Str
  | [] => ([], [])
  | c :: r => if isDg c = true then (c :: (spanD r).1, (spanD r).2) else ([], c :: r)
theorem spanD_app : ∀ q : Str, q = (spanD q).1 ++ (spanD q).2
  | [] => rfl
  | c :: r => by
    rw [spanD]
    split
    · simp only [List.cons_append]; rw [← spanD_app r]
    · rfl
theorem spanD_dg : ∀ q : Str, (spanD q).1.all isDg = true
  | [] => rfl
  | c :: r => by
    rw [spanD]
    split
    · rename_i h; rw [List.all_cons, h, spanD_dg r]; rfl
    · rfl
theorem spanD_len (q : Str) : (spanD q).1.length + (spanD q).2.length = q.length := by
  have := congrArg List.length (spanD_app q)
  rw [List.length_append] at this; omega
/-- A sign in front. -/
def sgnS : Str → Bool × Str
  | [] => (false, [])
  | c :: r => if c = 45 then (true, r) else if c = 43 then (false, r) else (false, c :: r)
theorem sgnS_len (q : Str) : (sgnS q).2.length ≤ q.length := by
  cases q with
  | nil => exact Nat.le_refl _
  | cons c r =>
    rw [sgnS]
    split
    · simp
    · split <;> simp
/-- What is read: the sign, the digits, how many behind the point, the exponent's sign and digits, whether nothing is left. -/
structure Rd [Lay] where (neg : Bool) (dig : Str) (fr : Nat) (en : Bool) (ed : Str) (ok : Bool)
def rdE [Lay] (ng : Bool) (dg : Str) (f : Nat) : Str → Option Rd
  | [] => some ⟨ng, dg, f, false, [], true⟩
  | c :: r => if c = 101 ∨ c = 69 then
      (if (spanD (sgnS r).2).1 = [] then none else some ⟨ng, dg, f, (sgnS r).1, (spanD (sgnS r).2).1, decide ((spanD (sgnS r).2).2 = [])⟩)
    else some ⟨ng, dg, f, false, [], false⟩
def rdF [Lay] (ng : Bool) (dg : Str) : Str → Option Rd
  | [] => rdE ng dg 0 []
  | c :: r => if c = 46 then (if (spanD r).1 = [] then none else rdE ng (dg ++ (spanD r).1) (spanD r).1.length (spanD r).2) else rdE ng dg 0 (c :: r)
def rdP [Lay] (q : Str) : Option Rd :=
  if q.length > 64 ∨ (spanD (sgnS q).2).1 = [] then none else rdF (sgnS q).1 (spanD (sgnS q).2).1 (spanD (sgnS q).2).2
def expV (cap : Nat) (q : Str) : Nat := q.foldl (fun e c => min cap (10 * e + dgt c)) 0
theorem expV_gen (cap : Nat) : ∀ (q : Str) (e : Nat), q.foldl (fun e c => min cap (10 * e + dgt c)) (min cap e) = min cap (e * 10 ^ q.length + natD q)
  | [], e => by simp [natD]
  | c :: r, e => by
    have h : min cap (10 * min cap e + dgt c) = min cap (10 * e + dgt c) := by omega
    rw [List.foldl_cons, h, expV_gen cap r, natD, List.length_cons, Nat.pow_succ]
    congr 1
    rw [Nat.add_mul, ← Nat.mul_assoc, Nat.mul_comm 10 e, Nat.mul_right_comm e 10]
    omega
theorem expV_eq (cap : Nat) (q : Str) : expV cap q = min cap (natD q) := by
  have := expV_gen cap q 0
  rw [Nat.min_zero, Nat.zero_mul, Nat.zero_add] at this
  exact this
/-- The exponent. -/
def Rd.e [Lay] (cap : Nat) (x : Rd) : Int := if x.en then - (expV cap x.ed : Int) else (expV cap x.ed : Int)
def Rd.nm [Lay] (cap : Nat) (x : Rd) : Nm := ⟨x.neg, x.dig, x.e cap - x.fr⟩
theorem rdE_len [Lay] {ng : Bool} {dg : Str} {f : Nat} {q : Str} {x : Rd} (h : rdE ng dg f q = some x) : x.dig = dg ∧ x.fr = f ∧ x.neg = ng := by
  cases q with
  | nil => cases h; exact ⟨rfl, rfl, rfl⟩
  | cons c r =>
    rw [rdE] at h
    split at h
    · split at h
      · cases h
      · cases h; exact ⟨rfl, rfl, rfl⟩
    · cases h; exact ⟨rfl, rfl, rfl⟩
theorem rdF_len [Lay] {ng : Bool} {dg q : Str} {x : Rd} (h : rdF ng dg q = some x) (h3 : dg ≠ []) (h4 : dg.all isDg = true) : x.dig ≠ [] ∧ x.dig.all isDg = true := by
  cases q with
  | nil =>
    rw [rdF] at h
    rw [(rdE_len h).1]; exact ⟨h3, h4⟩
  | cons c r =>
    rw [rdF] at h
    split at h
    · split at h
      · cases h
      · rw [(rdE_len h).1]
        exact ⟨by simp [h3], by rw [List.all_append, h4, spanD_dg]; rfl⟩
    · rw [(rdE_len h).1]; exact ⟨h3, h4⟩
theorem rdF_sz [Lay] {ng : Bool} {dg q : Str} {x : Rd} (h : rdF ng dg q = some x) : x.dig.length ≤ dg.length + q.length ∧ x.fr ≤ q.length := by
  cases q with
  | nil =>
    rw [rdF] at h
    obtain ⟨e1, e2, _⟩ := rdE_len h
    rw [e1, e2]; simp
  | cons c r =>
    rw [rdF] at h
    have hs := spanD_len r
    split at h
    · split at h
      · cases h
      · obtain ⟨e1, e2, _⟩ := rdE_len h
        rw [e1, e2, List.length_append, List.length_cons]; omega
    · obtain ⟨e1, e2, _⟩ := rdE_len h
      rw [e1, e2]; simp
theorem rdP_ok [Lay] {q : Str} {x : Rd} (h : rdP q = some x) : x.dig ≠ [] ∧ x.dig.all isDg = true ∧ x.dig.length ≤ 64 ∧ x.fr ≤ 64 := by
  unfold rdP at h
  split at h
  · cases h
  · rename_i hc
    obtain ⟨c1, c2⟩ := not_or.1 hc
    obtain ⟨s1, s2⟩ := rdF_sz h
    obtain ⟨r1, r2⟩ := rdF_len h c2 (spanD_dg _)
    have := spanD_len (sgnS q).2
    have := sgnS_len q
    exact ⟨r1, r2, by omega, by omega⟩
/-- The canonical text. -/
def textF (x : Nm) : Option Str :=
  if x.dig = [] then some [48]
  else if x.dig.length > 17 ∨ x.fst < -400 ∨ x.fst > 400 then none
  else some ((if x.neg then [45] else []) ++ (x.dig.take 1 ++ (if x.dig.length > 1 then [46] ++ x.dig.drop 1 else [])) ++ [101] ++ Lib.itoa x.fst)
theorem nm_trim [Lay] (x : Rd) (cap : Nat) : (tR (tL x.dig) = [] ∧ trimF (x.nm cap) = nm0) ∨ (tR (tL x.dig) ≠ [] ∧ trimF (x.nm cap) = ⟨x.neg, tR (tL x.dig), x.e cap - x.fr + ((tL x.dig).length - (tR (tL x.dig)).length : Nat)⟩) := by
  unfold trimF Rd.nm
  simp only
  by_cases h : tR (tL x.dig) = []
  · rw [if_pos h]; exact .inl ⟨h, rfl⟩
  · rw [if_neg h]; exact .inr ⟨h, rfl⟩
end Go.Proofs.YtmlhaikblfjghaaGreatDoor.S1
/- Decimals: within a tolerance; the plain law. -/
namespace Go.Proofs.YtmlhaikblfjghaaGreatDoor.S1
open Go Go.Ab Go.Proofs
def minF (x : Nm) : Nm := ⟨!x.neg && decide (x.dig ≠ []), x.dig, x.ex⟩
theorem minF_val {x : Nm} (h : Nrm x) : (minF x).val = - x.val ∧ Nrm (minF x) := by
  by_cases h0 : x.dig = []
  · have hz : nm0.val = 0 := by unfold Nm.val; rw [nm0_mag]; rfl
    have hm : minF nm0 = nm0 := rfl
    rw [h.z h0, hm, hz]
    exact ⟨rfl, ⟨rfl, by simp [nm0], .inl rfl, fun _ => rfl⟩⟩
  · have e : minF x = ⟨!x.neg, x.dig, x.ex⟩ := by
      unfold minF
      rw [decide_eq_true h0, Bool.and_true]
    rw [e]
    refine ⟨?_, ⟨h.dg, h.hd, h.lt, fun hd => absurd hd h0⟩⟩
    have hm : Nm.mag ⟨!x.neg, x.dig, x.ex⟩ = x.mag := rfl
    unfold Nm.val
    rw [hm]
    cases x.neg <;> simp
/-- A number within the bounds of canonical ones. -/
structure CN (x : Nm) : Prop where
  n : Nrm x
  l : x.dig.length ≤ 17
  e1 : -416 ≤ x.ex
  e2 : x.ex ≤ 400
theorem CN.min {x : Nm} (h : CN x) : CN (minF x) := ⟨(minF_val h.n).2, h.l, h.e1, h.e2⟩
end Go.Proofs.YtmlhaikblfjghaaGreatDoor.S1
/- Words for contracts where cells of the library's tables lie as its text lays them. -/
namespace Go.Proofs
open Go.Shelf
def Tryz.ito_ren : Go.Shelf.Ren := ⟨fun | 171 => 110 | 243 => 121 | 246 => 134 | 283 => 140 | 284 => 141 | 285 => 142 | 286 => 143 | 129 => 103 | 317 => 146 | 318 => 147 | 319 => 148 | 320 => 149 | 337 => 150 | 338 => 151 | n => n, fun | 3 => 3 | 9 => 9 | 2 => 2 | 4 => 4 | 171 => 180 | 0 => 0 | 53 => 118 | 37 => 80 | 5 => 5 | 173 => 182 | 212 => 185 | 51 => 115 | 20 => 20 | 213 => 186 | 46 => 96 | 232 => 191 | 233 => 192 | n => n, fun | 17 => 1 | 18 => 4 | 19 => 5 | n => n⟩
theorem Tryz.ito : Go.Proofs.LaysM.n171 Tryz.prog Tryz.ito_ren := {
  mixed := by kernel_rfl
  f129 := Tryz.func103.trans (congrArg some (by kernel_rfl))
  f171 := Tryz.func110.trans (congrArg some (by kernel_rfl))
  f243 := Tryz.func121.trans (congrArg some (by kernel_rfl))
  f246 := Tryz.func134.trans (congrArg some (by kernel_rfl))
  f283 := Tryz.func140.trans (congrArg some (by kernel_rfl))
  f284 := Tryz.func141.trans (congrArg some (by kernel_rfl))
  f285 := Tryz.func142.trans (congrArg some (by kernel_rfl))
  f286 := Tryz.func143.trans (congrArg some (by kernel_rfl))
  f317 := Tryz.func146.trans (congrArg some (by kernel_rfl))
  f318 := Tryz.func147.trans (congrArg some (by kernel_rfl))
  f319 := Tryz.func148.trans (congrArg some (by kernel_rfl))
  f320 := Tryz.func149.trans (congrArg some (by kernel_rfl))
  f337 := Tryz.func150.trans (congrArg some (by kernel_rfl))
  f338 := Tryz.func151.trans (congrArg some (by kernel_rfl))
  t0 := Tryz.underlying0
  a0 := Tryz.isAgg0
  z0 := Tryz.sizeOf0
  v0 := Tryz.zeroValue0
  t2 := Tryz.underlying2
  a2 := Tryz.isAgg2
  z2 := Tryz.sizeOf2
  v2 := Tryz.zeroValue2
  t3 := Tryz.underlying3
  a3 := Tryz.isAgg3
  z3 := Tryz.sizeOf3
  v3 := Tryz.zeroValue3
  t4 := Tryz.underlying4
  a4 := Tryz.isAgg4
  z4 := Tryz.sizeOf4
  v4 := Tryz.zeroValue4
  t5 := Tryz.underlying5
  a5 := Tryz.isAgg5
  z5 := Tryz.sizeOf5
  v5 := Tryz.zeroValue5
  t9 := Tryz.underlying9
  a9 := Tryz.isAgg9
  z9 := Tryz.sizeOf9
  v9 := Tryz.zeroValue9
  t20 := Tryz.underlying20
  a20 := Tryz.isAgg20
  z20 := Tryz.sizeOf20
  v20 := Tryz.zeroValue20
  t37 := Tryz.underlying80
  a37 := Tryz.isAgg80
  z37 := Tryz.sizeOf80
  v37 := Tryz.zeroValue80
  t46 := Tryz.underlying96
  a46 := Tryz.isAgg96
  z46 := Tryz.sizeOf96
  v46 := Tryz.zeroValue96
  t51 := Tryz.underlying115
  a51 := Tryz.isAgg115
  z51 := Tryz.sizeOf115
  v51 := Tryz.zeroValue115
  t53 := Tryz.underlying118
  a53 := Tryz.isAgg118
  z53 := Tryz.sizeOf118
  v53 := Tryz.zeroValue118
  t171 := Tryz.underlying180
  a171 := Tryz.isAgg180
  z171 := Tryz.sizeOf180
  v171 := Tryz.zeroValue180
  t173 := Tryz.underlying182
  a173 := Tryz.isAgg182
  z173 := Tryz.sizeOf182
  v173 := Tryz.zeroValue182
  t212 := Tryz.underlying185
  a212 := Tryz.isAgg185
  z212 := Tryz.sizeOf185
  v212 := Tryz.zeroValue185
  t213 := Tryz.underlying186
  a213 := Tryz.isAgg186
  z213 := Tryz.sizeOf186
  t232 := Tryz.underlying191
  a232 := Tryz.isAgg191
  z232 := Tryz.sizeOf191
  v232 := Tryz.zeroValue191
  t233 := Tryz.underlying192
  a233 := Tryz.isAgg192
  z233 := Tryz.sizeOf192
  v233 := Tryz.zeroValue192
  g17 := by kernel_rfl
  g18 := by kernel_rfl
  g19 := by kernel_rfl
  i0 := by kernel_rfl
  i2 := by kernel_rfl
  i3 := by kernel_rfl
  i4 := by kernel_rfl
  i5 := by kernel_rfl
  i9 := by kernel_rfl
  i20 := by kernel_rfl
  i37 := by kernel_rfl
  i46 := by kernel_rfl
  i51 := by kernel_rfl
  i53 := by kernel_rfl
  i171 := by kernel_rfl
  i173 := by kernel_rfl
  i212 := by kernel_rfl
  i232 := by kernel_rfl
  i233 := by kernel_rfl
  m17 := by kernel_rfl
  m18 := by kernel_rfl
  m19 := by kernel_rfl }
end Go.Proofs
namespace Go.Proofs.YtmlhaikblfjghaaGreatDoor.S1
open Go Go.Ab Go.Proofs
-- nolay
/-- Where the powers of ten lie. -/
noncomputable def gPow : Nat := (PP.globalNamed "internal/strconv.uint64pow10").getD 0
theorem gPow_eq : PP.globalNamed "internal/strconv.uint64pow10" = some gPow := by kernel_rfl
noncomputable def powRow : Array Value := (Lib.pow10Tab.map fun z => Value.int .u64 z).toArray
theorem powRow_size : powRow.size = 20 := by kernel_rfl
noncomputable abbrev LT10 : Lay where
  tab := fun a => if a.block = gPow ∧ a.spot = none then powRow[a.off]? else none
  row := fun b => if b = gPow then some powRow else none
  has := fun b cs h => by
    split at h
    · rename_i e
      cases h
      refine ⟨by rw [powRow_size]; omega, fun i hi => ⟨powRow[i], ?_⟩⟩
      rw [if_pos ⟨e, rfl⟩, Array.getElem?_eq_getElem hi]
    · cases h
theorem tabIs_of {g : G} {w : World} (h : @LayOk LT10 g w) : Lib.TabIs PP w "internal/strconv.uint64pow10" .u64 Lib.pow10Tab := by
  obtain ⟨T, fz, h1⟩ := h.2 gPow powRow (if_pos rfl)
  unfold Lib.TabIs World.var?
  rw [gPow_eq]
  simp only [Option.bind_some, h1]
  rfl
theorem layOk_of {g : G} {w : World} (h : Lib.TabIs PP w "internal/strconv.uint64pow10" .u64 Lib.pow10Tab) (hg : ∀ b cs T fz i v, w.heap[b]? = some (.cells cs T fz) → cs[i]? = some v → g.σ ⟨b, i, none⟩ = some v) : @LayOk LT10 g w := by
  have h1 : ∃ T fz, w.heap[gPow]? = some (.cells powRow T fz) := by
    unfold Lib.TabIs World.var? at h
    rw [gPow_eq] at h
    simp only [Option.bind_some] at h
    split at h
    · rename_i cs T fz e
      cases h
      exact ⟨T, fz, e⟩
    · cases h
  refine ⟨fun a v e => ?_, fun b cs e => ?_⟩
  · have e' : (if a.block = gPow ∧ a.spot = none then powRow[a.off]? else none) = some v := e
    split at e'
    · rename_i hc
      obtain ⟨T, fz, h2⟩ := h1
      have := hg gPow powRow T fz a.off v h2 e'
      have ha : a = ⟨gPow, a.off, none⟩ := by cases a; simp_all
      rw [ha]; exact this
    · cases e'
  · have e' : (if b = gPow then some powRow else none) = some cs := e
    split at e'
    · rename_i hc; cases e'; subst hc; exact h1
    · cases e'
end Go.Proofs.YtmlhaikblfjghaaGreatDoor.S1
/- Numerals of the library and of the reference, where the powers of ten lie as the library's text lays them. -/
namespace Go.Proofs.YtmlhaikblfjghaaGreatDoor.S1
open Go Go.Ab Go.Proofs
-- nolay
attribute [local instance] LT10
/-- A function of the library that only computes, and reads the laid tables. -/
theorem pureT {f : Nat} {args : List D} {v : D} (ok : Callable PP f) [da : DS args] [dv : DD v] (h : ∀ (g : G) (w : World) (vs : List Value), LayOk g w → Rs g args vs → ∃ x, R g v x ∧ Calls PP f vs.toArray w fun e w' => e = .returned x ∧ RowKit.Below w.heap.size w w') : Pure PP f args v :=
  ⟨ok, da.p, dv.p, fun g w vs hl sub hs => by
    obtain ⟨x, hx, hc⟩ := h g w vs hl hs
    refine hc.mono fun e w' ⟨he, hb⟩ => ⟨x, g.σ, he, R.mono ⟨fun _ _ h => h, fun _ _ h => h, fun _ k h => ⟨k, h, rfl, Nat.le_refl _, fun _ => rfl⟩⟩ _ _ hx, fun _ _ h => h, fun a y hy => ?_, fun _ _ h => .inl h, hb⟩
    obtain ⟨h1, h2⟩ := sub a y hy
    have hl : a.block < w.heap.size := World.block_lt_of_cell? w a h1
    exact ⟨(cell?_of_heap (hb.block _ hl)).trans h1, h2⟩⟩
theorem c110 (n : Int) (h0 : -9223372036854775808 ≤ n) (h1 : n ≤ 9223372036854775807) : Pure PP 110 [I n] (.str (Lib.itoa n)) := by
  refine pureT ⟨Tryz.f110, by kernel_rfl, by kernel_rfl, by kernel_rfl⟩ fun g w vs hl h => ?_
  simp only [Rs, R] at h
  obtain ⟨_, _, rfl, rfl, rfl⟩ := h
  refine ⟨.string ⟨(Lib.itoa n).toArray⟩, by simp only [R, true_and]; have := Lib.itoa_length_le n h0 h1; unfold strM; omega, ?_⟩
  exact (Any.strconv_Itoa Tryz.ito n h0 h1 w (tabIs_of hl)).mono fun e w' ⟨he, k, os, hw⟩ => ⟨he, by subst hw; exact Lib.below_grow _ _ (Nat.le_refl _) _ _⟩
end Go.Proofs.YtmlhaikblfjghaaGreatDoor.S1
/- Decimals: the library's trimming of zeros; a number's parts. -/
namespace Go.Proofs.YtmlhaikblfjghaaGreatDoor.S1
open Go Go.Ab Go.Proofs
theorem F127 : OkF 127 Tryz.f127 := ⟨by kernel_rfl, by kernel_rfl, by kernel_rfl⟩
def lv127 : List (List Nat × List Nat) := [([1, 0, 0], [0, 1])]
noncomputable def nTLBs  : List Nat → Nat → Option Ans := scrAt []
theorem nTLB [Lay] (q : Str) (K : D → Prop) : runS (En Tryz.f127) (fi Tryz.f127 K) (nTLBs ) lv127 200 [.code []] ⟨argSlots 0 [L q 1 encB, .int .u8 48], .empty⟩ =
  (At (En Tryz.f127) (fi Tryz.f127 K) [It.code [1, 0, 0], It.blk 0, It.code [1, 1]] { sl := [(0, L q 1 encB), (1, D.int IntKind.u8 48)], h := Heap.empty : St }) := by kernel_rfl
def STB (q : Str) : St := ⟨[(0, L q 1 encB), (1, .int .u8 48)], .empty⟩
noncomputable def nTLBas  : List Nat → Nat → Option Ans := scrAt []
theorem nTLBa [Lay] (q : Str) (J : St → Prop) (K : D → Prop) : runS (En Tryz.f127) (fi Tryz.f127 K) (nTLBas ) lv127 200 [.code [1, 0, 0, 0], stp [0, 1] J, .blk 0, .code [1, 1]] (STB q) =
  (List.length q ≤ lenM → (decide ((↑(List.length q) : Int) > 0) = true → (0 : Int) ≤ 0 ∧ 0 < (↑(List.length q) : Int)) ∧ bif bif decide ((↑(List.length q) : Int) > 0) then (↑(List.getD q 0 default).toNat : Int) == 48 else false then ((0 : Int) ≤ 1 ∧ 1 ≤ (↑(List.length q) : Int)) ∧ J { sl := [(0, .list (List.length q - 1) 1 (dropG (fun i => encB (List.getD q i default)) 1) .none), (1, D.int IntKind.u8 48)], h := Heap.empty : St } else List.length q ≤ lenM → bif (↑(List.length q) : Int) == 0 then K (.list 0 0 (fun _ => D.junk) .full) else K (L q 1 encB)) := by kernel_rfl
theorem F131 : OkF 131 Tryz.f131 := ⟨by kernel_rfl, by kernel_rfl, by kernel_rfl⟩
def lv131 : List (List Nat × List Nat) := [([1, 0, 0], [0, 1])]
noncomputable def nTRBs  : List Nat → Nat → Option Ans := scrAt []
theorem nTRB [Lay] (q : Str) (K : D → Prop) : runS (En Tryz.f131) (fi Tryz.f131 K) (nTRBs ) lv131 200 [.code []] ⟨argSlots 0 [L q 1 encB, .int .u8 48], .empty⟩ =
  (At (En Tryz.f131) (fi Tryz.f131 K) [It.code [1, 0, 0], It.blk 0, It.code [1, 1]] { sl := [(0, L q 1 encB), (1, D.int IntKind.u8 48)], h := Heap.empty : St }) := by kernel_rfl
noncomputable def nTRBas  : List Nat → Nat → Option Ans := scrAt []
theorem nTRBa [Lay] (q : Str) (J : St → Prop) (K : D → Prop) : runS (En Tryz.f131) (fi Tryz.f131 K) (nTRBas ) lv131 200 [.code [1, 0, 0, 0], stp [0, 1] J, .blk 0, .code [1, 1]] (STB q) =
  (List.length q ≤ lenM → (decide ((↑(List.length q) : Int) > 0) = true → List.length q ≤ lenM) → (decide ((↑(List.length q) : Int) > 0) = true → 0 ≤ subI .i64 (↑(List.length q) : Int) 1 ∧ subI .i64 (↑(List.length q) : Int) 1 < (↑(List.length q) : Int)) ∧ bif bif decide ((↑(List.length q) : Int) > 0) then (↑(List.getD q (subI .i64 (↑(List.length q) : Int) 1).toNat default).toNat : Int) == 48 else false then List.length q ≤ lenM → ((0 : Int) ≤ 0 ∧ 0 ≤ subI .i64 (↑(List.length q) : Int) 1 ∧ subI .i64 (↑(List.length q) : Int) 1 ≤ (↑(List.length q) : Int)) ∧ J { sl := [(0, .list ((subI .i64 (↑(List.length q) : Int) 1).toNat - 0) 1 (dropG (fun i => encB (List.getD q i default)) 0) .none), (1, D.int IntKind.u8 48)], h := Heap.empty : St } else K (L q 1 encB)) := by kernel_rfl
instance ddNm {x : Nm} : DD x.d := inferInstanceAs (DD (.agg _))
theorem bytesG_drop (q : Str) (k n : Nat) (h : k + n ≤ q.length) : bytesG n (dropG (fun i => encB (q.getD i default)) k) = (q.drop k).take n := by
  have hb : ∀ b : UInt8, byteD (encB b) = b := fun b => by
    show UInt8.ofNat ((b.toNat : Int)).toNat = b
    rw [Int.toNat_natCast, UInt8.ofNat_toNat]
  unfold bytesG
  refine List.ext_getElem (by simp; omega) fun i h1 h2 => ?_
  have hi : i < n := by simpa using h1
  rw [List.getElem_map, List.getElem_range, List.getElem_take, List.getElem_drop]
  show byteD (encB (q.getD (k + i) default)) = _
  rw [hb, List.getD_eq_getElem?_getD, List.getElem?_eq_getElem (by omega)]; rfl
theorem allB_drop (q : Str) (k n : Nat) : allByte n (dropG (fun i => encB (q.getD i default)) k) := fun i _ => ⟨q.getD (k + i) default, rfl⟩
theorem Wk.dropL (q : Str) (k n : Nat) (own : Own) (ho : own = .full ∨ own = .none) (r : Str) (hr : (q.drop k).take n = r) (hn : r.length = n) : Wk (.list n 1 (dropG (fun i => encB (q.getD i default)) k) own) (L r 1 encB) := by
  subst hr
  refine Wk.list hn.symm (.inl rfl) (fun i hi => ?_) (.inl rfl)
  show encB (q.getD (k + i) default) = encB (((q.drop k).take n).getD i default)
  have h1 : i < ((q.drop k).take n).length := by omega
  rw [List.getD_eq_getElem?_getD, List.getD_eq_getElem?_getD, List.getElem?_take, List.getElem?_drop]
  rw [if_pos (by omega)]
theorem c127 [Lay] (q : Str) : Pure PP 127 [L q 1 encB, .int .u8 48] (L (tL q) 1 encB) := by
  refine pu F127 (by kernel_rfl) (of_eq (nTLB q _) ?_)
  refine lp (fn := Tryz.f127) (fun z : Str => tL q = tL z) (fun z => STB z) (fun z => z.length) [0, 1] (by kernel_rfl) (fun z hz => of_eq (nTLBa z _ _) fun hlm => ⟨fun h => ⟨by omega, by have := of_decide_eq_true h; omega⟩, ?_⟩) q rfl
  cases z with
  | nil =>
    rw [hz]
    exact fun _ => Wk.nilL
  | cons c r =>
    have h1 : decide (((c :: r).length : Int) > 0) = true := decide_eq_true (by rw [List.length_cons]; omega)
    rw [h1]
    refine cond_intro (fun h => ⟨⟨by omega, by simp; omega⟩, Nx.of r ?_ (by simp) ?_⟩) fun h => fun _ => ?_
    · have h : ((c.toNat : Int) == 48) = true := h
      have hc : c = 48 := UInt8.toNat_inj.1 (by have := eq_of_beq h; show c.toNat = 48; omega)
      rw [hz, tL, if_pos hc]
    · exact StLe.set 0 rfl (Wk.dropL (c :: r) 1 _ _ (.inr rfl) r (by simp) (by simp)) rfl rfl
    · have h : ((c.toNat : Int) == 48) = false := h
      have hc : c ≠ 48 := fun e => by rw [e] at h; exact absurd h (by decide)
      rw [hz, tL, if_neg hc]
      refine cond_intro (fun h => ?_) fun _ => Wk.refl _
      have := eq_of_beq h
      simp at this; omega
theorem tR_snoc (r : Str) (c : UInt8) : tR (r ++ [c]) = if c = 48 then tR r else r ++ [c] := by
  unfold tR
  rw [List.reverse_append, List.reverse_singleton, List.singleton_append, tL]
  split
  · rfl
  · rw [List.reverse_cons, List.reverse_reverse]
theorem c131 [Lay] (q : Str) : Pure PP 131 [L q 1 encB, .int .u8 48] (L (tR q) 1 encB) := by
  refine pu F131 (by kernel_rfl) (of_eq (nTRB q _) ?_)
  refine lp (fn := Tryz.f131) (fun z : Str => tR q = tR z) (fun z => STB z) (fun z => z.length) [0, 1] (by kernel_rfl) (fun z hz => of_eq (nTRBa z _ _) fun hlm => ?_) q rfl
  rcases List.eq_nil_or_concat z with rfl | ⟨r, c, rfl⟩
  · rw [hz]
    exact fun _ => ⟨fun h => absurd (of_decide_eq_true h) (by simp), Wk.refl _⟩
  · rw [List.concat_eq_append] at hz hlm ⊢
    have hl : (r ++ [c]).length = r.length + 1 := by simp
    have h1 : decide (((r ++ [c]).length : Int) > 0) = true := decide_eq_true (by omega)
    have h2 : subI .i64 ((r ++ [c]).length : Int) 1 = (r.length : Int) := by rw [sub64 (by unfold lenM at hlm; omega) (by unfold lenM at hlm; omega)]; omega
    have h3 : (r ++ [c]).getD r.length default = c := by simp [List.getD]
    rw [h1, h2, Int.toNat_natCast, h3]
    refine fun _ => ⟨fun _ => ⟨by omega, by omega⟩, cond_intro (fun h => fun _ => ⟨⟨by omega, by omega, by omega⟩, Nx.of r ?_ (by omega) ?_⟩) fun h => ?_⟩
    · have h : ((c.toNat : Int) == 48) = true := h
      have hc : c = 48 := UInt8.toNat_inj.1 (by have := eq_of_beq h; show c.toNat = 48; omega)
      rw [hz, tR_snoc, if_pos hc]
    · exact StLe.set 0 rfl (Wk.dropL (r ++ [c]) 0 _ _ (.inr rfl) r (by simp) (by simp)) rfl rfl
    · have h : ((c.toNat : Int) == 48) = false := h
      have hc : c ≠ 48 := fun e => by rw [e] at h; exact absurd h (by decide)
      rw [hz, tR_snoc, if_neg hc]
      exact Wk.refl _
theorem F119 : OkF 119 Tryz.f119 := ⟨by kernel_rfl, by kernel_rfl, by kernel_rfl⟩
def lv119 : List (List Nat × List Nat) := []
noncomputable def nTLs (q : Str) : List Nat → Nat → Option Ans := scrAt [([1, 1, 1, 0, 1, 0, 0], 3, Ans.pure [L q 1 encB, D.int IntKind.u8 48] (L (tL q) 1 encB))]
theorem nTL [Lay] (q : Str) (K : D → Prop) : runS (En Tryz.f119) (fi Tryz.f119 K) (nTLs q) lv119 200 [.code []] ⟨argSlots 0 [L q 1 encB, .str [48]], .empty⟩ =
  (List.length q ≤ lenM → bif (↑(List.length q) : Int) == 0 then K (.list 0 0 (fun _ => D.junk) .full) else 1 ≤ strM → (true = true → (0 : Int) ≤ 0 ∧ 0 < (↑1 : Int)) ∧ ((0 : Int) ≤ 0 ∧ 0 < (↑1 : Int)) ∧ PureW PP 127 [L q 1 encB, D.int IntKind.u8 48] [L q 1 encB, D.int IntKind.u8 48] (L (tL q) 1 encB) ∧ K (L (tL q) 1 encB)) := by kernel_rfl
theorem F120 : OkF 120 Tryz.f120 := ⟨by kernel_rfl, by kernel_rfl, by kernel_rfl⟩
def lv120 : List (List Nat × List Nat) := []
noncomputable def nTRs (q : Str) : List Nat → Nat → Option Ans := scrAt [([1, 1, 0, 1, 0, 0], 3, Ans.pure [L q 1 encB, D.int IntKind.u8 48] (L (tR q) 1 encB))]
theorem nTR [Lay] (q : Str) (K : D → Prop) : runS (En Tryz.f120) (fi Tryz.f120 K) (nTRs q) lv120 200 [.code []] ⟨argSlots 0 [L q 1 encB, .str [48]], .empty⟩ =
  (List.length q ≤ lenM → bif bif (↑(List.length q) : Int) == 0 then true else false then K (L q 1 encB) else 1 ≤ strM → (true = true → (0 : Int) ≤ 0 ∧ 0 < (↑1 : Int)) ∧ ((0 : Int) ≤ 0 ∧ 0 < (↑1 : Int)) ∧ PureW PP 131 [L q 1 encB, D.int IntKind.u8 48] [L q 1 encB, D.int IntKind.u8 48] (L (tR q) 1 encB) ∧ K (L (tR q) 1 encB)) := by kernel_rfl
theorem c119 [Lay] (q : Str) : Pure PP 119 [L q 1 encB, .str [48]] (L (tL q) 1 encB) := by
  refine pu F119 (by kernel_rfl) (of_eq (nTL q _) fun _ => cond_intro (fun h => ?_) fun _ => fun _ => ⟨fun _ => ⟨by omega, by omega⟩, ⟨by omega, by omega⟩, PureW.mk (c127 q), Wk.refl _⟩)
  have h0 : q = [] := List.eq_nil_of_length_eq_zero (by have := eq_of_beq h; omega)
  rw [h0]; exact Wk.nilL
theorem c120 [Lay] (q : Str) : Pure PP 120 [L q 1 encB, .str [48]] (L (tR q) 1 encB) := by
  refine pu F120 (by kernel_rfl) (of_eq (nTR q _) fun _ => cond_intro (fun h => ?_) fun _ => fun _ => ⟨fun _ => ⟨by omega, by omega⟩, ⟨by omega, by omega⟩, PureW.mk (c131 q), Wk.refl _⟩)
  have h0 : q = [] := List.eq_nil_of_length_eq_zero (by
    cases hx : ((q.length : Int) == 0) with
    | true => have := eq_of_beq hx; omega
    | false => rw [hx] at h; cases h)
  rw [h0]; exact Wk.refl _
theorem F108 : OkF 108 Tryz.f108 := ⟨by kernel_rfl, by kernel_rfl, by kernel_rfl⟩
def lv108 : List (List Nat × List Nat) := []
noncomputable def nTrms (x : Nm) : List Nat → Nat → Option Ans := scrAt [([1, 0], 2, Ans.pure [L x.dig 1 encB, .str [48]] (L (tL x.dig) 1 encB)), ([1, 1, 0], 2, Ans.pure [L (tL x.dig) 1 encB, .str [48]] (L (tR (tL x.dig)) 1 encB))]
theorem nTrm [Lay] (x : Nm) (K : D → Prop) : runS (En Tryz.f108) (fi Tryz.f108 K) (nTrms x) lv108 200 [.code []] ⟨argSlots 0 [x.d], .empty⟩ =
  (PureW PP 119 [L x.dig 1 encB, .str [48]] [L x.dig 1 encB, .str [48]] (L (tL x.dig) 1 encB) ∧ True ∧ PureW PP 120 [L (tL x.dig) 1 encB, .str [48]] [L (tL x.dig) 1 encB, .str [48]] (L (tR (tL x.dig)) 1 encB) ∧ (List.length (tR (tL x.dig)) ≤ lenM → List.length (tL x.dig) ≤ lenM → True ∧ ((0 : Int) ≤ 0 ∧ 0 ≤ (↑(List.length (tR (tL x.dig))) : Int) ∧ (↑(List.length (tR (tL x.dig))) : Int) ≤ (↑(List.length (tL x.dig)) : Int) ∧ (↑(List.length (tR (tL x.dig))) : Int) = (↑(List.length (tR (tL x.dig))) : Int)) ∧ True ∧ bif (↑(List.length (tR (tL x.dig))) : Int) == 0 then True ∧ K (.agg [B false, .list 0 0 (fun _ => D.junk) .full, I 0]) else True ∧ K (.agg [B x.neg, .list ((↑(List.length (tR (tL x.dig))) : Int).toNat - 0) 1 (dropG (fun i => encB (List.getD (tL x.dig) i default)) 0) .full, I (addI .i64 x.ex (subI .i64 (↑(List.length (tL x.dig)) : Int) (↑(List.length (tR (tL x.dig))) : Int)))]))) := by kernel_rfl
theorem tR_take (q : Str) : q.take (tR q).length = tR q := by
  obtain ⟨n, h, _⟩ := tR_spec q
  conv => lhs; rw [h]
  rw [List.take_left']
  exact congrArg List.length (by rw [← h])
theorem c108 [Lay] (x : Nm) (hl : x.dig.length ≤ 1000000) (h1 : -1000000000 ≤ x.ex) (h2 : x.ex ≤ 1000000000) : Pure PP 108 [x.d] (trimF x).d := by
  have t1 := tL_len x.dig
  have t2 := tR_len (tL x.dig)
  refine pu F108 (by kernel_rfl) (of_eq (nTrm x _) ⟨PureW.mk (c119 _), trivial, PureW.mk (c120 _), fun _ => fun _ => ⟨trivial, ⟨by omega, by omega, by omega, rfl⟩, trivial, cond_intro (fun h => ⟨trivial, ?_⟩) fun h => ⟨trivial, ?_⟩⟩⟩)
  · have h0 : tR (tL x.dig) = [] := List.eq_nil_of_length_eq_zero (by have := eq_of_beq h; omega)
    unfold trimF
    rw [if_pos h0]
    exact Wk.agg (Wks.cons (Wk.refl _) (Wks.cons Wk.nilL (Wks.refl _)))
  · have h0 : tR (tL x.dig) ≠ [] := fun e => by rw [e] at h; exact absurd h (by decide)
    unfold trimF
    rw [if_neg h0, Int.toNat_natCast, Nat.sub_zero]
    rw [sub64 (by omega) (by omega), add64 (by omega) (by omega), show x.ex + ((tL x.dig).length - (tR (tL x.dig)).length : Int) = x.ex + (((tL x.dig).length - (tR (tL x.dig)).length : Nat) : Int) by omega]
    exact Wk.agg (Wks.cons (Wk.refl _) (Wks.cons (Wk.dropL (tL x.dig) 0 _ _ (.inl rfl) _ (by rw [List.drop_zero, tR_take]) rfl) (Wks.refl _)))
theorem F109 : OkF 109 Tryz.f109 := ⟨by kernel_rfl, by kernel_rfl, by kernel_rfl⟩
def lv109 : List (List Nat × List Nat) := []
noncomputable def nNfs  : List Nat → Nat → Option Ans := scrAt []
theorem nNf [Lay] (x : Nm) (K : D → Prop) : runS (En Tryz.f109) (fi Tryz.f109 K) (nNfs ) lv109 200 [.code []] ⟨argSlots 0 [x.d], .empty⟩ =
  (List.length x.dig ≤ lenM → K (I (subI .i64 (addI .i64 x.ex (↑(List.length x.dig) : Int)) 1))) := by kernel_rfl
theorem c109 [Lay] (x : Nm) (h1 : -2000000000 ≤ x.ex) (h2 : x.ex ≤ 2000000000) (hl : x.dig.length ≤ 1000000) : Pure PP 109 [x.d] (I x.fst) :=
  pu F109 (by kernel_rfl) (of_eq (nNf x _) fun _ => by
    rw [add64 (by omega) (by omega), sub64 (by omega) (by omega)]; exact Wk.refl _)
theorem len0 (q : Str) : ((q.length : Int) == 0) = decide (q = []) := by
  cases q with
  | nil => rfl
  | cons c r =>
    have : ((((c :: r).length : Nat) : Int) == 0) = false := by
      rw [beq_eq_false_iff_ne]; simp; omega
    rw [this]; rfl
end Go.Proofs.YtmlhaikblfjghaaGreatDoor.S1
/- Decimals: a number's text. -/
namespace Go.Proofs.YtmlhaikblfjghaaGreatDoor.S1
open Go Go.Ab Go.Proofs
-- nolay
attribute [local instance] LT10
theorem F92 : OkF 92 Tryz.f92 := ⟨by kernel_rfl, by kernel_rfl, by kernel_rfl⟩
def lv92 : List (List Nat × List Nat) := []
noncomputable def nTxts (x : Nm) : List Nat → Nat → Option Ans := scrAt [([1, 1, 0, 0], 6, Ans.pure [x.d] (I x.fst)), ([1, 1, 0, 0], 11, Ans.pure [x.d] (I x.fst)), ([1, 1, 1, 1, 1, 1, 0], 3, Ans.pure [x.d] (I x.fst)), ([1, 1, 1, 1, 1, 1, 0], 4, Ans.pure [I x.fst] (.str (Lib.itoa x.fst)))]
theorem nTxt (x : Nm) (K : D → Prop) : runS (En Tryz.f92) (fi Tryz.f92 K) (nTxts x) lv92 200 [.code []] ⟨argSlots 0 [x.d], .empty⟩ =
  (List.length x.dig ≤ lenM →
  bif (↑(List.length x.dig) : Int) == 0 then K (.tup [.str { data := #[48] : ByteArray }.data.toList, I 0])
  else
    List.length x.dig ≤ lenM →
      ((!decide ((↑(List.length x.dig) : Int) > 17)) = true → PureW PP 109 [x.d] [x.d] (I x.fst)) ∧
        ((!bif decide ((↑(List.length x.dig) : Int) > 17) then true else decide (x.fst < -400)) = true → PureW PP 109 [x.d] [x.d] (I x.fst)) ∧
          bif bif bif decide ((↑(List.length x.dig) : Int) > 17) then true else decide (x.fst < -400) then true else decide (x.fst > 400) then K (.tup [.str { data := #[] : ByteArray }.data.toList, I 9])
          else
            ((0 : Int) ≤ 0 ∧ (0 : Int) ≤ 1 ∧ 1 ≤ (↑(List.length x.dig) : Int)) ∧
              allByte 1 (dropG (fun i => encB (List.getD x.dig i default)) 0) ∧
                (List.length x.dig ≤ lenM →
                  bif decide ((↑(List.length x.dig) : Int) > 1) then
                    ((0 : Int) ≤ 1 ∧ 1 ≤ (↑(List.length x.dig) : Int)) ∧
                      allByte (List.length x.dig - 1) (dropG (fun i => encB (List.getD x.dig i default)) 1) ∧
                        1 + (bytesG (List.length x.dig - 1) (dropG (fun i => encB (List.getD x.dig i default)) 1)).length ≤ strM ∧
                          (bytesG 1 (dropG (fun i => encB (List.getD x.dig i default)) 0)).length + ({ data := #[46] : ByteArray }.data.toList ++ bytesG (List.length x.dig - 1) (dropG (fun i => encB (List.getD x.dig i default)) 1)).length ≤ strM ∧
                            bif x.neg then 1 + (bytesG 1 (dropG (fun i => encB (List.getD x.dig i default)) 0) ++ ({ data := #[46] : ByteArray }.data.toList ++ bytesG (List.length x.dig - 1) (dropG (fun i => encB (List.getD x.dig i default)) 1))).length ≤ strM ∧ ({ data := #[45] : ByteArray }.data.toList ++ (bytesG 1 (dropG (fun i => encB (List.getD x.dig i default)) 0) ++ ({ data := #[46] : ByteArray }.data.toList ++ bytesG (List.length x.dig - 1) (dropG (fun i => encB (List.getD x.dig i default)) 1)))).length + 1 ≤ strM ∧ PureW PP 109 [x.d] [x.d] (I x.fst) ∧ PureW PP 110 [I x.fst] [I x.fst] (.str (Lib.itoa x.fst)) ∧ ({ data := #[45] : ByteArray }.data.toList ++ (bytesG 1 (dropG (fun i => encB (List.getD x.dig i default)) 0) ++ ({ data := #[46] : ByteArray }.data.toList ++ bytesG (List.length x.dig - 1) (dropG (fun i => encB (List.getD x.dig i default)) 1))) ++ { data := #[101] : ByteArray }.data.toList).length + (Lib.itoa x.fst).length ≤ strM ∧ K (.tup [.str ({ data := #[45] : ByteArray }.data.toList ++ (bytesG 1 (dropG (fun i => encB (List.getD x.dig i default)) 0) ++ ({ data := #[46] : ByteArray }.data.toList ++ bytesG (List.length x.dig - 1) (dropG (fun i => encB (List.getD x.dig i default)) 1))) ++ { data := #[101] : ByteArray }.data.toList ++ Lib.itoa x.fst), I 0])
                            else (bytesG 1 (dropG (fun i => encB (List.getD x.dig i default)) 0) ++ ({ data := #[46] : ByteArray }.data.toList ++ bytesG (List.length x.dig - 1) (dropG (fun i => encB (List.getD x.dig i default)) 1))).length + 1 ≤ strM ∧ PureW PP 109 [x.d] [x.d] (I x.fst) ∧ PureW PP 110 [I x.fst] [I x.fst] (.str (Lib.itoa x.fst)) ∧ (bytesG 1 (dropG (fun i => encB (List.getD x.dig i default)) 0) ++ ({ data := #[46] : ByteArray }.data.toList ++ bytesG (List.length x.dig - 1) (dropG (fun i => encB (List.getD x.dig i default)) 1)) ++ { data := #[101] : ByteArray }.data.toList).length + (Lib.itoa x.fst).length ≤ strM ∧ K (.tup [.str (bytesG 1 (dropG (fun i => encB (List.getD x.dig i default)) 0) ++ ({ data := #[46] : ByteArray }.data.toList ++ bytesG (List.length x.dig - 1) (dropG (fun i => encB (List.getD x.dig i default)) 1)) ++ { data := #[101] : ByteArray }.data.toList ++ Lib.itoa x.fst), I 0])
                  else bif x.neg then 1 + (bytesG 1 (dropG (fun i => encB (List.getD x.dig i default)) 0)).length ≤ strM ∧ ({ data := #[45] : ByteArray }.data.toList ++ bytesG 1 (dropG (fun i => encB (List.getD x.dig i default)) 0)).length + 1 ≤ strM ∧ PureW PP 109 [x.d] [x.d] (I x.fst) ∧ PureW PP 110 [I x.fst] [I x.fst] (.str (Lib.itoa x.fst)) ∧ ({ data := #[45] : ByteArray }.data.toList ++ bytesG 1 (dropG (fun i => encB (List.getD x.dig i default)) 0) ++ { data := #[101] : ByteArray }.data.toList).length + (Lib.itoa x.fst).length ≤ strM ∧ K (.tup [.str ({ data := #[45] : ByteArray }.data.toList ++ bytesG 1 (dropG (fun i => encB (List.getD x.dig i default)) 0) ++ { data := #[101] : ByteArray }.data.toList ++ Lib.itoa x.fst), I 0]) else (bytesG 1 (dropG (fun i => encB (List.getD x.dig i default)) 0)).length + 1 ≤ strM ∧ PureW PP 109 [x.d] [x.d] (I x.fst) ∧ PureW PP 110 [I x.fst] [I x.fst] (.str (Lib.itoa x.fst)) ∧ (bytesG 1 (dropG (fun i => encB (List.getD x.dig i default)) 0) ++ { data := #[101] : ByteArray }.data.toList).length + (Lib.itoa x.fst).length ≤ strM ∧ K (.tup [.str (bytesG 1 (dropG (fun i => encB (List.getD x.dig i default)) 0) ++ { data := #[101] : ByteArray }.data.toList ++ Lib.itoa x.fst), I 0]))) := by kernel_rfl
def txtV (x : Nm) : Str × Int := match textF x with
  | some q => (q, 0)
  | none => ([], 9)
theorem itoa_len {n : Int} (h0 : -2000000 ≤ n) (h1 : n ≤ 2000000) : (Lib.itoa n).length ≤ 100 := by
  have := Lib.itoa_length_le n (by omega) (by omega)
  omega
theorem c92 (x : Nm) (hl : x.dig.length ≤ 1000000) (h1 : -2000000000 ≤ x.ex) (h2 : x.ex ≤ 2000000000) : Pure PP 92 [x.d] (.tup [.str (txtV x).1, I (txtV x).2]) := by
  have e48 : ({ data := #[48] : ByteArray }.data.toList : Str) = [48] := rfl
  have e0 : ({ data := #[] : ByteArray }.data.toList : Str) = [] := rfl
  have e46 : ({ data := #[46] : ByteArray }.data.toList : Str) = [46] := rfl
  have e45 : ({ data := #[45] : ByteArray }.data.toList : Str) = [45] := rfl
  have e101 : ({ data := #[101] : ByteArray }.data.toList : Str) = [101] := rfl
  refine pu F92 (by kernel_rfl) (of_eq (nTxt x _) fun _ => ?_)
  rw [len0]
  refine cond_intro (fun h => ?_) fun h => fun _ => ⟨fun _ => PureW.mk (c109 x h1 h2 hl), fun _ => PureW.mk (c109 x h1 h2 hl), ?_⟩
  · have h := of_decide_eq_true h
    unfold txtV textF
    rw [if_pos h]; exact Wk.refl _
  have h0 := of_decide_eq_false h
  have hb : (bif bif decide ((x.dig.length : Int) > 17) then true else decide (x.fst < -400) then true else decide (x.fst > 400)) = decide (x.dig.length > 17 ∨ x.fst < -400 ∨ x.fst > 400) := by
    rw [Bool.eq_iff_iff]; simp [or_assoc]; omega
  rw [hb]
  refine cond_intro (fun h => ?_) fun h => ?_
  · have h := of_decide_eq_true h
    unfold txtV textF
    rw [if_neg h0, if_pos h]; exact Wk.refl _
  have hc := of_decide_eq_false h
  have hp := List.length_pos_iff.2 h0
  have hfst : Pure PP 109 [x.d] (I x.fst) := c109 x h1 h2 hl
  have hit : Pure PP 110 [I x.fst] (.str (Lib.itoa x.fst)) := c110 x.fst (by omega) (by omega)
  have hil := itoa_len (n := x.fst) (by omega) (by omega)
  have g1 : bytesG 1 (dropG (fun i => encB (x.dig.getD i default)) 0) = x.dig.take 1 := by rw [bytesG_drop _ _ _ (by omega), List.drop_zero]
  have hT : txtV x = ((if x.neg then [45] else []) ++ (x.dig.take 1 ++ (if x.dig.length > 1 then [46] ++ x.dig.drop 1 else [])) ++ [101] ++ Lib.itoa x.fst, 0) := by
    unfold txtV textF
    rw [if_neg h0, if_neg hc]
  have l1 : (x.dig.take 1).length = 1 := by rw [List.length_take]; omega
  rw [hT, g1, e46, e45, e101]
  refine ⟨⟨by omega, by omega, by omega⟩, allB_drop _ _ _, fun _ => cond_intro (fun h => ?_) fun h => ?_⟩
  · have h3 : x.dig.length > 1 := by have := of_decide_eq_true h; omega
    have g2 : bytesG (x.dig.length - 1) (dropG (fun i => encB (x.dig.getD i default)) 1) = x.dig.drop 1 := by
      rw [bytesG_drop _ _ _ (by omega)]
      exact List.take_of_length_le (by rw [List.length_drop]; omega)
    have l2 : (x.dig.drop 1).length ≤ 1000000 := by rw [List.length_drop]; omega
    rw [g2, if_pos h3]
    refine ⟨⟨by omega, by omega⟩, allB_drop _ _ _, by unfold strM; omega, by simp only [List.length_append, List.length_singleton]; unfold strM; omega, ?_⟩
    cases x.neg
    · refine ⟨by simp only [List.length_append, List.length_singleton]; unfold strM; omega, PureW.mk hfst, PureW.mk hit, by simp only [List.length_append, List.length_singleton]; unfold strM; omega, Wk.refl _⟩
    · refine ⟨by simp only [List.length_append, List.length_singleton]; unfold strM; omega, by simp only [List.length_append, List.length_singleton]; unfold strM; omega, PureW.mk hfst, PureW.mk hit, by simp only [List.length_append, List.length_singleton]; unfold strM; omega, Wk.refl _⟩
  · have h3 : ¬ x.dig.length > 1 := by have := of_decide_eq_false h; omega
    rw [if_neg h3, List.append_nil]
    cases x.neg
    · refine ⟨by rw [l1]; unfold strM; omega, PureW.mk hfst, PureW.mk hit, by simp only [List.length_append, List.length_singleton]; unfold strM; omega, Wk.refl _⟩
    · refine ⟨by rw [l1]; unfold strM; omega, by simp only [List.length_append, List.length_singleton]; unfold strM; omega, PureW.mk hfst, PureW.mk hit, by simp only [List.length_append, List.length_singleton]; unfold strM; omega, Wk.refl _⟩
end Go.Proofs.YtmlhaikblfjghaaGreatDoor.S1
/- Decimals: scanning; the closures. -/
namespace Go.Proofs.YtmlhaikblfjghaaGreatDoor.S1
open Go Go.Ab Go.Proofs
def hSc (q : Str) (a : Int) : Heap := ⟨upd (upd (fun _ => none) 0 (some (.lit [.str q]))) 1 (some (.lit [I a])), 2, fun _ => none, 0, fun _ => none⟩
theorem F106 : OkF 106 Tryz.f106 := ⟨by kernel_rfl, by kernel_rfl, by kernel_rfl⟩
def lv106 : List (List Nat × List Nat) := [([1, 0, 1, 0], [0, 1, 2, 7, 8])]
noncomputable def nOnes  : List Nat → Nat → Option Ans := scrAt []
theorem nOne [Lay] (e q : Str) (a : Int) (K : D → Heap → Prop) : runS (En Tryz.f106) (fh Tryz.f106 K) (nOnes ) lv106 200 [.code []] ⟨argSlots 0 [.str e, .bp 1 0, .bp 0 0], hSc q a⟩ =
  (List.length e ≤ strM → At (En Tryz.f106) (fh Tryz.f106 K) [It.code [1, 0, 1, 0], It.blk 0, It.code [1, 1]] { sl := [(0, .str e), (1, D.bp 1 0), (2, D.bp 0 0), (7, I (↑(List.length e) : Int)), (8, I 0)], h := { box := upd (upd (fun _ => none) 0 (some (Row.lit [.str q]))) 1 (some (Row.lit [I a])), nl := 2, hw := fun _ => none, nt := 0, vw := fun _ => none : Heap } : St }) := by kernel_rfl
def SOn (e q : Str) (a i : Int) : St := ⟨[(0, .str e), (1, .bp 1 0), (2, .bp 0 0), (7, I e.length), (8, I i)], hSc q a⟩
noncomputable def nOneas  : List Nat → Nat → Option Ans := scrAt []
theorem nOnea [Lay] (e q : Str) (a i : Int) (J : St → Prop) (K : D → Heap → Prop) : runS (En Tryz.f106) (fh Tryz.f106 K) (nOneas ) lv106 200 [.code [1, 0, 1, 0, 0], stp [0, 1, 2, 7, 8] J, .blk 0, .code [1, 1]] (SOn e q a i) =
  (bif decide (i < (↑(List.length e) : Int)) then List.length q ≤ strM → (decide (a < (↑(List.length q) : Int)) = true → 0 ≤ a ∧ a < (↑(List.length q) : Int)) ∧ (decide (a < (↑(List.length q) : Int)) = true → 0 ≤ i ∧ i < (↑(List.length e) : Int)) ∧ bif bif decide (a < (↑(List.length q) : Int)) then (↑(List.getD q a.toNat 0).toNat : Int) == (↑(List.getD e i.toNat 0).toNat : Int) else false then True ∧ K (B true) { box := upd (upd (upd (fun _ => none) 0 (some (Row.lit [.str q]))) 1 (some (Row.lit [I a]))) 1 (some (Row.lit [I (addI .i64 a 1)])), nl := 2, hw := fun _ => none, nt := 0, vw := fun _ => none : Heap } else J { sl := [(0, .str e), (1, D.bp 1 0), (2, D.bp 0 0), (7, I (↑(List.length e) : Int)), (8, I (addI .i64 i 1))], h := { box := upd (upd (fun _ => none) 0 (some (Row.lit [.str q]))) 1 (some (Row.lit [I a])), nl := 2, hw := fun _ => none, nt := 0, vw := fun _ => none : Heap } : St } else K (B false) { box := upd (upd (fun _ => none) 0 (some (Row.lit [.str q]))) 1 (some (Row.lit [I a])), nl := 2, hw := fun _ => none, nt := 0, vw := fun _ => none : Heap }) := by kernel_rfl
theorem F107 : OkF 107 Tryz.f107 := ⟨by kernel_rfl, by kernel_rfl, by kernel_rfl⟩
def lv107 : List (List Nat × List Nat) := [([1, 1, 0, 0], [0, 1, 3])]
noncomputable def nDgs  : List Nat → Nat → Option Ans := scrAt []
theorem nDg [Lay] (q : Str) (a : Int) (K : D → Heap → Prop) : runS (En Tryz.f107) (fh Tryz.f107 K) (nDgs ) lv107 200 [.code []] ⟨argSlots 0 [.bp 1 0, .bp 0 0], hSc q a⟩ =
  (At (En Tryz.f107) (fh Tryz.f107 K) [It.code [1, 1, 0, 0], It.blk 0, It.code [1, 1, 1]] { sl := [(0, D.bp 1 0), (1, D.bp 0 0), (3, I a)], h := { box := upd (upd (fun _ => none) 0 (some (Row.lit [.str q]))) 1 (some (Row.lit [I a])), nl := 2, hw := fun _ => none, nt := 0, vw := fun _ => none : Heap } : St }) := by kernel_rfl
def SDg (q : Str) (f a : Int) : St := ⟨[(0, .bp 1 0), (1, .bp 0 0), (3, I f)], hSc q a⟩
noncomputable def nDgas  : List Nat → Nat → Option Ans := scrAt []
theorem nDga [Lay] (q : Str) (f a : Int) (J : St → Prop) (K : D → Heap → Prop) : runS (En Tryz.f107) (fh Tryz.f107 K) (nDgas ) lv107 200 [.code [1, 1, 0, 0, 0], stp [0, 1, 3] J, .blk 0, .code [1, 1, 1]] (SDg q f a) =
  (List.length q ≤ strM → (decide (a < (↑(List.length q) : Int)) = true → 0 ≤ a ∧ a < (↑(List.length q) : Int)) ∧ ((bif decide (a < (↑(List.length q) : Int)) then decide ((↑(List.getD q a.toNat 0).toNat : Int) ≥ 48) else false) = true → 0 ≤ a ∧ a < (↑(List.length q) : Int)) ∧ bif bif bif decide (a < (↑(List.length q) : Int)) then decide ((↑(List.getD q a.toNat 0).toNat : Int) ≥ 48) else false then decide ((↑(List.getD q a.toNat 0).toNat : Int) ≤ 57) else false then True ∧ J { sl := [(0, D.bp 1 0), (1, D.bp 0 0), (3, I f)], h := { box := upd (upd (upd (fun _ => none) 0 (some (Row.lit [.str q]))) 1 (some (Row.lit [I a]))) 1 (some (Row.lit [I (addI .i64 a 1)])), nl := 2, hw := fun _ => none, nt := 0, vw := fun _ => none : Heap } : St } else (0 ≤ f ∧ f ≤ a ∧ a ≤ (↑(List.length q) : Int)) ∧ K (.str (List.drop f.toNat (List.take a.toNat q))) { box := upd (upd (fun _ => none) 0 (some (Row.lit [.str q]))) 1 (some (Row.lit [I a])), nl := 2, hw := fun _ => none, nt := 0, vw := fun _ => none : Heap }) := by kernel_rfl
def oneB (e q : Str) (a : Int) : Bool := decide (a < (q.length : Int)) && e.contains (q.getD a.toNat 0)
def oneA (e q : Str) (a : Int) : Int := if oneB e q a = true then a + 1 else a
theorem hSc_set (q : Str) (a b : Int) : (⟨upd (upd (upd (fun _ => none) 0 (some (Row.lit [.str q]))) 1 (some (Row.lit [I a]))) 1 (some (Row.lit [I b])), 2, fun _ => none, 0, fun _ => none⟩ : Heap) = hSc q b :=
  hp_eq (fun k => by rcases k with _ | _ | k <;> rfl) rfl rfl
theorem e106 [Lay] (e q : Str) (a : Int) (h0 : 0 ≤ a) (h1 : a ≤ 1000000) (he : e.length ≤ 1000) : Does PP 106 [.str e, .bp 1 0, .bp 0 0] (hSc q a) (B (oneB e q a)) (hSc q (oneA e q a)) := by
  refine du F106 (by kernel_rfl) (of_eq (nOne e q a _) fun _ => ?_)
  refine lp (fn := Tryz.f106) (fun i : Nat => i ≤ e.length ∧ oneB e q a = (decide (a < (q.length : Int)) && (e.drop i).contains (q.getD a.toNat 0))) (fun i => SOn e q a i) (fun i => e.length - i) [0, 1, 2, 7, 8] (by kernel_rfl) (fun i hi => of_eq (nOnea e q a i _ _) ?_) 0 ⟨Nat.zero_le _, rfl⟩
  obtain ⟨hi, hc⟩ := hi
  refine cond_intro (fun hlt => fun _ => ?_) fun hge => ?_
  · have hlt := ltI hlt
    have hg : e.getD (i : Int).toNat 0 = e.getD i default := by rw [Int.toNat_natCast]; rfl
    rw [drop_cons _ _ hlt, List.contains_cons] at hc
    rw [hg, add1 hlt (by unfold lenM; omega)]
    refine ⟨fun h => ⟨h0, of_decide_eq_true h⟩, fun _ => ⟨by omega, by omega⟩, ?_⟩
    by_cases hq : a < (q.length : Int)
    · have hd : decide (a < (q.length : Int)) = true := decide_eq_true hq
      rw [hd]
      refine cond_intro (fun h => ⟨trivial, ?_⟩) fun h => ?_
      · have h := eq_of_beq (show (((q.getD a.toNat 0).toNat : Int) == ((e.getD i default).toNat : Int)) = true from h)
        have hE : (q.getD a.toNat 0 == e.getD i default) = true := by
          rw [beq_iff_eq, ← UInt8.toNat_inj]; omega
        rw [hE, Bool.true_or, Bool.and_true, hd] at hc
        rw [add64 (by omega) (by omega), hSc_set]
        unfold oneA
        rw [hc, if_pos rfl]
        exact RetLe.refl _ _
      · have h : (((q.getD a.toNat 0).toNat : Int) == ((e.getD i default).toNat : Int)) = false := h
        have hE : (q.getD a.toNat 0 == e.getD i default) = false := by
          rw [beq_eq_false_iff_ne] at h ⊢
          intro e; exact h (by rw [e])
        rw [hE, Bool.false_or] at hc
        rw [hd] at hc
        exact Nx.mk (i + 1) ⟨hlt, hc⟩ (by omega)
    · have hd : decide (a < (q.length : Int)) = false := decide_eq_false hq
      rw [hd, Bool.false_and] at hc
      rw [hd]
      refine cond_intro (fun h => by cases h) fun _ => ?_
      exact Nx.mk (i + 1) ⟨hlt, by rw [Bool.false_and]; exact hc⟩ (by omega)
  · rw [List.drop_of_length_le (geI hge)] at hc
    have hb : oneB e q a = false := by rw [hc]; simp
    unfold oneA
    rw [hb, if_neg (by simp)]
    exact RetLe.refl _ _
theorem e107 [Lay] (q : Str) (a : Int) (h0 : 0 ≤ a) (h1 : a ≤ (q.length : Int)) (hq : q.length ≤ 1000000) : Does PP 107 [.bp 1 0, .bp 0 0] (hSc q a) (.str (spanD (q.drop a.toNat)).1) (hSc q (a + (spanD (q.drop a.toNat)).1.length)) := by
  obtain ⟨f, rfl⟩ : ∃ n : Nat, a = n := ⟨a.toNat, by omega⟩
  rw [Int.toNat_natCast]
  refine du F107 (by kernel_rfl) (of_eq (nDg q f _) ?_)
  refine lp (fn := Tryz.f107) (fun i : Nat => f ≤ i ∧ i ≤ q.length ∧ (spanD (q.drop f)).1 = (q.take i).drop f ++ (spanD (q.drop i)).1) (fun i => SDg q f i) (fun i => q.length - i) [0, 1, 3] (by kernel_rfl) (fun i hi => of_eq (nDga q f i _ _) fun hlm => ?_) f ⟨Nat.le_refl _, by omega, by
    have h9 : (q.take f).drop f = [] := List.drop_eq_nil_of_le (by rw [List.length_take]; omega)
    rw [h9]; rfl⟩
  obtain ⟨hfi, hi, he⟩ := hi
  rw [Int.toNat_natCast]
  refine ⟨fun h => ⟨by omega, of_decide_eq_true h⟩, fun h => ?_, ?_⟩
  · by_cases hx : (i : Int) < (q.length : Int)
    · exact ⟨by omega, hx⟩
    · rw [decide_eq_false hx] at h; cases h
  by_cases hx : i < q.length
  · have hdg : (bif bif decide ((i : Int) < (q.length : Int)) then decide (((q.getD i 0).toNat : Int) ≥ 48) else false then decide (((q.getD i 0).toNat : Int) ≤ 57) else false) = isDg (q.getD i default) := by
      rw [decide_eq_true (by omega)]
      unfold isDg
      show (bif decide (((q.getD i default).toNat : Int) ≥ 48) then decide (((q.getD i default).toNat : Int) ≤ 57) else false) = _
      rw [Bool.eq_iff_iff]; simp; omega
    rw [hdg]
    rw [drop_cons _ _ hx, spanD] at he
    refine cond_intro (fun h => ⟨trivial, ?_⟩) fun h => ⟨⟨by omega, by omega, by omega⟩, ?_⟩
    · rw [if_pos h] at he
      rw [add64 (by omega) (by omega)]
      refine Nx.of (i + 1) ⟨by omega, hx, ?_⟩ (by omega) (StLe.heap (hSc_set q i ((i + 1 : Nat) : Int)))
      rw [he, take_snoc _ _ hx, List.drop_append_of_le_length (by rw [List.length_take]; omega), List.append_assoc]; rfl
    · rw [if_neg (by rw [h]; simp), List.append_nil] at he
      rw [he, Int.toNat_natCast, List.length_drop, List.length_take]
      refine RetLe.wk (Wk.refl _) ?_
      show hSc q (i : Int) = hSc q _
      congr 1; omega
  · have hdg : (bif bif decide ((i : Int) < (q.length : Int)) then decide (((q.getD i 0).toNat : Int) ≥ 48) else false then decide (((q.getD i 0).toNat : Int) ≤ 57) else false) = false := by
      rw [decide_eq_false (by omega)]; rfl
    rw [hdg]
    have hd : q.drop i = [] := List.drop_of_length_le (by omega)
    have hn : (spanD ([] : Str)).1 = [] := rfl
    rw [hd, hn, List.append_nil] at he
    refine ⟨⟨by omega, by omega, by omega⟩, ?_⟩
    rw [he, Int.toNat_natCast, List.length_drop, List.length_take]
    refine RetLe.wk (Wk.refl _) ?_
    show hSc q (i : Int) = hSc q _
    congr 1; omega
end Go.Proofs.YtmlhaikblfjghaaGreatDoor.S1
/- Decimals: scanning, parts. -/
namespace Go.Proofs.YtmlhaikblfjghaaGreatDoor.S1
open Go Go.Ab Go.Proofs
def hScT (q : Str) (a : Int) (n : Nat) : Heap := ⟨upd (upd (fun _ => none) 0 (some (.lit [.str q]))) 1 (some (.lit [I a])), 2, upd (fun _ => none) 0 (some n), 1, fun _ => none⟩
theorem F91 : OkF 91 Tryz.f91 := ⟨by kernel_rfl, by kernel_rfl, by kernel_rfl⟩
def lv91 : List (List Nat × List Nat) := [([1, 1, 1, 1, 1, 1, 1, 1, 1, 1, 1, 0, 1, 0, 1, 1, 1, 1, 1, 0, 1, 0], [1, 2, 4, 5, 10, 12, 66, 67, 68])]
abbrev oneC : D := .clo 106 [.bp 1 0, .bp 0 0]
abbrev digC : D := .clo 107 [.bp 1 0, .bp 0 0]
abbrev nilB : D := .list 0 0 (fun _ => .junk) .full
noncomputable def lvSA : List (List Nat × List Nat) := [([1, 1, 1, 1, 1, 1], [1, 2, 4, 5, 6, 7])]
noncomputable def nScAs  : List Nat → Nat → Option Ans := scrAt []
theorem nScA [Lay] (q : Str) (K : D → Heap → Prop) : runS (EnX [1, 5] Tryz.f91) (fh Tryz.f91 K) (nScAs ) lvSA 200 [.code []] ⟨argSlots 0 [.str q], .empty⟩ =
  (True ∧ (List.length q ≤ strM → bif decide ((↑(List.length q) : Int) > 64) then True ∧ K (.tup [.agg [B false, .list 0 0 (fun _ => D.junk) .full, I 0], B false]) { box := upd (fun _ => none) 0 (some (Row.lit [.str q])), nl := 1, hw := fun _ => none, nt := 0, vw := fun _ => none : Heap } else True ∧ True ∧ At (EnX [1, 5] Tryz.f91) (fh Tryz.f91 K) [It.code [1, 1, 1, 1, 1, 1]] { sl := [(1, D.bp 0 0), (2, .own [B false, .list 0 0 (fun _ => D.junk) .full, I 0]), (4, .own [B false, .list 0 0 (fun _ => D.junk) .full, I 0]), (5, D.bp 1 0), (6, D.clo 106 [D.bp 1 0, D.bp 0 0]), (7, D.clo 107 [D.bp 1 0, D.bp 0 0])], h := { box := upd (upd (upd (fun _ => none) 0 (some (Row.lit [.str q]))) 1 (some (Row.lit [I 0]))) 1 (some (Row.lit [I 0])), nl := 2, hw := fun _ => none, nt := 0, vw := fun _ => none : Heap } : St })) := by kernel_rfl
noncomputable def lvSA2 : List (List Nat × List Nat) := [([1, 1, 1, 1, 1, 1, 1], [1, 2, 4, 5, 6, 7])]
noncomputable def nScA2s (q : Str) : List Nat → Nat → Option Ans := scrAt [([1, 1, 1, 1, 1, 1, 0, 0], 1, Ans.eff (B (oneB { data := #[45] : ByteArray }.data.toList q 0)) (hSc q (oneA { data := #[45] : ByteArray }.data.toList q 0))), ([1, 1, 1, 1, 1, 1, 0, 1, 1], 1, Ans.eff (B (oneB { data := #[43] : ByteArray }.data.toList q (oneA { data := #[45] : ByteArray }.data.toList q 0))) (hSc q (oneA { data := #[43] : ByteArray }.data.toList q (oneA { data := #[45] : ByteArray }.data.toList q 0))))]
theorem nScA2 [Lay] (q : Str) (K : D → Heap → Prop) : runS (EnX [1, 5] Tryz.f91) (fh Tryz.f91 K) (nScA2s q) lvSA2 200 [.code [1, 1, 1, 1, 1, 1]] ⟨[(1, .bp 0 0), (2, .own [B false, nilB, I 0]), (4, .own [B false, nilB, I 0]), (5, .bp 1 0), (6, oneC), (7, digC)], hSc q 0⟩ =
  (Does PP 106 [.str { data := #[45] : ByteArray }.data.toList, D.bp 1 0, D.bp 0 0] { box := upd (upd (fun _ => none) 0 (some (Row.lit [.str q]))) 1 (some (Row.lit [I 0])), nl := 2, hw := fun _ => none, nt := 0, vw := fun _ => none : Heap } (B (oneB { data := #[45] : ByteArray }.data.toList q 0)) (hSc q (oneA { data := #[45] : ByteArray }.data.toList q 0)) ∧
  bif oneB { data := #[45] : ByteArray }.data.toList q 0 then True ∧ At (EnX [1, 5] Tryz.f91) (fh Tryz.f91 K) [It.code [1, 1, 1, 1, 1, 1, 1]] { sl := [(1, D.bp 0 0), (2, .own [B false, nilB, I 0]), (4, .own [B true, nilB, I 0]), (5, D.bp 1 0), (6, oneC), (7, digC)], h := { box := upd (upd (fun _ => none) 0 (some (Row.lit [.str q]))) 1 (some (Row.lit [I (oneA { data := #[45] : ByteArray }.data.toList q 0)])), nl := 2, hw := fun _ => none, nt := 0, vw := fun _ => none : Heap } : St } else Does PP 106 [.str { data := #[43] : ByteArray }.data.toList, D.bp 1 0, D.bp 0 0] { box := upd (upd (fun _ => none) 0 (some (Row.lit [.str q]))) 1 (some (Row.lit [I (oneA { data := #[45] : ByteArray }.data.toList q 0)])), nl := 2, hw := fun _ => none, nt := 0, vw := fun _ => none : Heap } (B (oneB { data := #[43] : ByteArray }.data.toList q (oneA { data := #[45] : ByteArray }.data.toList q 0))) (hSc q (oneA { data := #[43] : ByteArray }.data.toList q (oneA { data := #[45] : ByteArray }.data.toList q 0))) ∧ At (EnX [1, 5] Tryz.f91) (fh Tryz.f91 K) [It.code [1, 1, 1, 1, 1, 1, 1]] { sl := [(1, D.bp 0 0), (2, .own [B false, nilB, I 0]), (4, .own [B false, nilB, I 0]), (5, D.bp 1 0), (6, oneC), (7, digC)], h := { box := upd (upd (fun _ => none) 0 (some (Row.lit [.str q]))) 1 (some (Row.lit [I (oneA { data := #[43] : ByteArray }.data.toList q (oneA { data := #[45] : ByteArray }.data.toList q 0))])), nl := 2, hw := fun _ => none, nt := 0, vw := fun _ => none : Heap } : St }) := by kernel_rfl
noncomputable def lvSB : List (List Nat × List Nat) := [([1, 1, 1, 1, 1, 1, 1, 1, 1, 1], [1, 2, 4, 5, 6, 7])]
noncomputable def nScBs (q : Str) (a : Int) : List Nat → Nat → Option Ans := scrAt [([1, 1, 1, 1, 1, 1, 1, 0], 1, Ans.eff (.str (spanD (List.drop a.toNat q)).fst) (hSc q (a + (↑(List.length (spanD (List.drop a.toNat q)).fst) : Int))))]
theorem nScB [Lay] (q : Str) (a : Int) (ng : Bool) (K : D → Heap → Prop) : runS (EnX [1, 5] Tryz.f91) (fh Tryz.f91 K) (nScBs q a) lvSB 200 [.code [1, 1, 1, 1, 1, 1, 1]] ⟨[(1, .bp 0 0), (2, .own [B false, nilB, I 0]), (4, .own [B ng, nilB, I 0]), (5, .bp 1 0), (6, oneC), (7, digC)], hSc q a⟩ =
  (Does PP 107 [D.bp 1 0, D.bp 0 0] { box := upd (upd (fun _ => none) 0 (some (Row.lit [.str q]))) 1 (some (Row.lit [I a])), nl := 2, hw := fun _ => none, nt := 0, vw := fun _ => none : Heap } (.str (spanD (List.drop a.toNat q)).fst) (hSc q (a + (↑(List.length (spanD (List.drop a.toNat q)).fst) : Int))) ∧ bif (spanD (List.drop a.toNat q)).fst == { data := #[] : ByteArray }.data.toList then True ∧ K (.tup [.agg [B ng, nilB, I 0], B false]) { box := upd (upd (fun _ => none) 0 (some (Row.lit [.str q]))) 1 (some (Row.lit [I (a + (↑(List.length (spanD (List.drop a.toNat q)).fst) : Int))])), nl := 2, hw := fun _ => none, nt := 0, vw := fun _ => none : Heap } else (0 + List.length (spanD (List.drop a.toNat q)).fst) * 1 ≤ roomM ∧ True ∧ At (EnX [1, 5] Tryz.f91) (fh Tryz.f91 K) [It.code [1, 1, 1, 1, 1, 1, 1, 1, 1, 1]] { sl := [(1, D.bp 0 0), (2, .own [B false, nilB, I 0]), (4, .own [B ng, .list (0 + List.length (spanD (List.drop a.toNat q)).fst) 1 (catG 0 (fun _ => D.junk) (strG (spanD (List.drop a.toNat q)).fst)) (.tok 0 1), I 0]), (5, D.bp 1 0), (6, oneC), (7, digC)], h := { box := upd (upd (fun _ => none) 0 (some (Row.lit [.str q]))) 1 (some (Row.lit [I (a + (↑(List.length (spanD (List.drop a.toNat q)).fst) : Int))])), nl := 2, hw := upd (fun _ => none) 0 (some (0 + List.length (spanD (List.drop a.toNat q)).fst)), nt := 1, vw := fun _ => none : Heap } : St }) := by kernel_rfl
noncomputable def lvSC : List (List Nat × List Nat) := [([1, 1, 1, 1, 1, 1, 1, 1, 1, 1, 1], [1, 2, 4, 5, 6, 7])]
noncomputable def nScCs (q : Str) (wh : Str) (a : Int) : List Nat → Nat → Option Ans := scrAt [([1, 1, 1, 1, 1, 1, 1, 1, 1, 1, 0, 0], 1, Ans.eff (ren (rnm [0, 1] 2) (rnm [] 1) (B (oneB { data := #[46] : ByteArray }.data.toList q a))) (frameH [0, 1] [] { box := upd (upd (fun _ => none) 0 (some (Row.lit [.str q]))) 1 (some (Row.lit [I a])), nl := 2, hw := upd (fun _ => none) 0 (some (List.length wh)), nt := 1, vw := fun _ => none : Heap } (hSc q (oneA { data := #[46] : ByteArray }.data.toList q a)))), ([1, 1, 1, 1, 1, 1, 1, 1, 1, 1, 0, 1, 0, 0], 1, Ans.eff (ren (rnm [0, 1] 2) (rnm [] 1) (.str (spanD (List.drop (oneA { data := #[46] : ByteArray }.data.toList q a).toNat q)).fst)) (frameH [0, 1] [] { box := upd (upd (upd (upd (fun _ => none) 0 (some (Row.lit [.str q]))) 1 (some (Row.lit [I a]))) 0 (some (Row.lit [.str q]))) 1 (some (Row.lit [I (oneA { data := #[46] : ByteArray }.data.toList q a)])), nl := 2, hw := upd (fun _ => none) 0 (some (List.length wh)), nt := 1, vw := fun _ => none : Heap } (hSc q (oneA { data := #[46] : ByteArray }.data.toList q a + (↑(List.length (spanD (List.drop (oneA { data := #[46] : ByteArray }.data.toList q a).toNat q)).fst) : Int)))))]
theorem nScC [Lay] (q wh : Str) (a : Int) (ng : Bool) (K : D → Heap → Prop) : runS (EnX [1, 5] Tryz.f91) (fh Tryz.f91 K) (nScCs q wh a) lvSC 200 [.code [1, 1, 1, 1, 1, 1, 1, 1, 1, 1]] ⟨[(1, .bp 0 0), (2, .own [B false, nilB, I 0]), (4, .own [B ng, LT wh 1 encB 0, I 0]), (5, .bp 1 0), (6, oneC), (7, digC)], hScT q a wh.length⟩ =
  (Does PP 106 [.str { data := #[46] : ByteArray }.data.toList, D.bp 1 0, D.bp 0 0] { box := upd (upd (fun _ => none) 0 (some (Row.lit [.str q]))) 1 (some (Row.lit [I a])), nl := 2, hw := upd (fun _ => none) 0 (some (List.length wh)), nt := 1, vw := fun _ => none : Heap } (ren (rnm [0, 1] 2) (rnm [] 1) (B (oneB { data := #[46] : ByteArray }.data.toList q a))) (frameH [0, 1] [] { box := upd (upd (fun _ => none) 0 (some (Row.lit [.str q]))) 1 (some (Row.lit [I a])), nl := 2, hw := upd (fun _ => none) 0 (some (List.length wh)), nt := 1, vw := fun _ => none : Heap } (hSc q (oneA { data := #[46] : ByteArray }.data.toList q a))) ∧
  bif oneB { data := #[46] : ByteArray }.data.toList q a then
    Does PP 107 [D.bp 1 0, D.bp 0 0] { box := upd (upd (upd (upd (fun _ => none) 0 (some (Row.lit [.str q]))) 1 (some (Row.lit [I a]))) 0 (some (Row.lit [.str q]))) 1 (some (Row.lit [I (oneA { data := #[46] : ByteArray }.data.toList q a)])), nl := 2, hw := upd (fun _ => none) 0 (some (List.length wh)), nt := 1, vw := fun _ => none : Heap } (ren (rnm [0, 1] 2) (rnm [] 1) (.str (spanD (List.drop (oneA { data := #[46] : ByteArray }.data.toList q a).toNat q)).fst)) (frameH [0, 1] [] { box := upd (upd (upd (upd (fun _ => none) 0 (some (Row.lit [.str q]))) 1 (some (Row.lit [I a]))) 0 (some (Row.lit [.str q]))) 1 (some (Row.lit [I (oneA { data := #[46] : ByteArray }.data.toList q a)])), nl := 2, hw := upd (fun _ => none) 0 (some (List.length wh)), nt := 1, vw := fun _ => none : Heap } (hSc q (oneA { data := #[46] : ByteArray }.data.toList q a + (↑(List.length (spanD (List.drop (oneA { data := #[46] : ByteArray }.data.toList q a).toNat q)).fst) : Int)))) ∧
      bif (spanD (List.drop (oneA { data := #[46] : ByteArray }.data.toList q a).toNat q)).fst == { data := #[] : ByteArray }.data.toList then True ∧ K (.tup [.agg [B ng, .list (List.length wh) 1 (fun i => encB (List.getD wh i default)) (.tok 0 1), I 0], B false]) { box := upd (upd (upd (upd (upd (upd (fun _ => none) 0 (some (Row.lit [.str q]))) 1 (some (Row.lit [I a]))) 0 (some (Row.lit [.str q]))) 1 (some (Row.lit [I (oneA { data := #[46] : ByteArray }.data.toList q a)]))) 0 (some (Row.lit [.str q]))) 1 (some (Row.lit [I (oneA { data := #[46] : ByteArray }.data.toList q a + (↑(List.length (spanD (List.drop (oneA { data := #[46] : ByteArray }.data.toList q a).toNat q)).fst) : Int))])), nl := 2, hw := upd (fun _ => none) 0 (some (List.length wh)), nt := 1, vw := fun _ => none : Heap }
      else (updN (upd (fun _ => none) 0 (some (List.length wh))) (rnm [] 1) (fun _ => none) 0 0 = some (List.length wh) ∧ (List.length wh + List.length (spanD (List.drop (oneA { data := #[46] : ByteArray }.data.toList q a).toNat q)).fst) * 1 ≤ roomM) ∧ True ∧ (List.length (spanD (List.drop (oneA { data := #[46] : ByteArray }.data.toList q a).toNat q)).fst ≤ strM → True ∧ At (EnX [1, 5] Tryz.f91) (fh Tryz.f91 K) [It.code [1, 1, 1, 1, 1, 1, 1, 1, 1, 1, 1]] { sl := [(1, D.bp 0 0), (2, .own [B false, nilB, I 0]), (4, .own [B ng, .list (List.length wh + List.length (spanD (List.drop (oneA { data := #[46] : ByteArray }.data.toList q a).toNat q)).fst) 1 (catG (List.length wh) (fun i => encB (List.getD wh i default)) (strG (spanD (List.drop (oneA { data := #[46] : ByteArray }.data.toList q a).toNat q)).fst)) (.tok 0 1), I (subI .i64 0 (↑(List.length (spanD (List.drop (oneA { data := #[46] : ByteArray }.data.toList q a).toNat q)).fst) : Int))]), (5, D.bp 1 0), (6, oneC), (7, digC)], h := { box := upd (upd (upd (upd (upd (upd (fun _ => none) 0 (some (Row.lit [.str q]))) 1 (some (Row.lit [I a]))) 0 (some (Row.lit [.str q]))) 1 (some (Row.lit [I (oneA { data := #[46] : ByteArray }.data.toList q a)]))) 0 (some (Row.lit [.str q]))) 1 (some (Row.lit [I (oneA { data := #[46] : ByteArray }.data.toList q a + (↑(List.length (spanD (List.drop (oneA { data := #[46] : ByteArray }.data.toList q a).toNat q)).fst) : Int))])), nl := 2, hw := upd (upd (fun _ => none) 0 (some (List.length wh))) 0 (some (List.length wh + List.length (spanD (List.drop (oneA { data := #[46] : ByteArray }.data.toList q a).toNat q)).fst)), nt := 1, vw := fun _ => none : Heap } : St })
  else At (EnX [1, 5] Tryz.f91) (fh Tryz.f91 K) [It.code [1, 1, 1, 1, 1, 1, 1, 1, 1, 1, 1]] { sl := [(1, D.bp 0 0), (2, .own [B false, nilB, I 0]), (4, .own [B ng, .list (List.length wh) 1 (fun i => encB (List.getD wh i default)) (.tok 0 1), I 0]), (5, D.bp 1 0), (6, oneC), (7, digC)], h := { box := upd (upd (upd (upd (fun _ => none) 0 (some (Row.lit [.str q]))) 1 (some (Row.lit [I a]))) 0 (some (Row.lit [.str q]))) 1 (some (Row.lit [I (oneA { data := #[46] : ByteArray }.data.toList q a)])), nl := 2, hw := upd (fun _ => none) 0 (some (List.length wh)), nt := 1, vw := fun _ => none : Heap } : St }) := by kernel_rfl
noncomputable def lvSD : List (List Nat × List Nat) := [([1, 1, 1, 1, 1, 1, 1, 1, 1, 1, 1, 1], [1, 2, 4, 5]), ([1, 1, 1, 1, 1, 1, 1, 1, 1, 1, 1, 0, 1, 0], [1, 2, 4, 5, 6, 7])]
noncomputable def nScDs (q : Str) (dg : Str) (a : Int) : List Nat → Nat → Option Ans := scrAt [([1, 1, 1, 1, 1, 1, 1, 1, 1, 1, 1, 0, 0], 1, Ans.eff (ren (rnm [0, 1] 2) (rnm [] 1) (B (oneB { data := #[101, 69] : ByteArray }.data.toList q a))) (frameH [0, 1] [] { box := upd (upd (fun _ => none) 0 (some (Row.lit [.str q]))) 1 (some (Row.lit [I a])), nl := 2, hw := upd (fun _ => none) 0 (some (List.length dg)), nt := 1, vw := fun _ => none : Heap } (hSc q (oneA { data := #[101, 69] : ByteArray }.data.toList q a))))]
theorem nScD [Lay] (q dg : Str) (a x : Int) (ng : Bool) (K : D → Heap → Prop) : runS (EnX [1, 5] Tryz.f91) (fh Tryz.f91 K) (nScDs q dg a) lvSD 200 [.code [1, 1, 1, 1, 1, 1, 1, 1, 1, 1, 1]] ⟨[(1, .bp 0 0), (2, .own [B false, nilB, I 0]), (4, .own [B ng, LT dg 1 encB 0, I x]), (5, .bp 1 0), (6, oneC), (7, digC)], hScT q a dg.length⟩ =
  (Does PP 106 [.str { data := #[101, 69] : ByteArray }.data.toList, D.bp 1 0, D.bp 0 0] { box := upd (upd (fun _ => none) 0 (some (Row.lit [.str q]))) 1 (some (Row.lit [I a])), nl := 2, hw := upd (fun _ => none) 0 (some (List.length dg)), nt := 1, vw := fun _ => none : Heap } (ren (rnm [0, 1] 2) (rnm [] 1) (B (oneB { data := #[101, 69] : ByteArray }.data.toList q a))) (frameH [0, 1] [] { box := upd (upd (fun _ => none) 0 (some (Row.lit [.str q]))) 1 (some (Row.lit [I a])), nl := 2, hw := upd (fun _ => none) 0 (some (List.length dg)), nt := 1, vw := fun _ => none : Heap } (hSc q (oneA { data := #[101, 69] : ByteArray }.data.toList q a))) ∧
  bif oneB { data := #[101, 69] : ByteArray }.data.toList q a then At (EnX [1, 5] Tryz.f91) (fh Tryz.f91 K) [It.code [1, 1, 1, 1, 1, 1, 1, 1, 1, 1, 1, 0, 1, 0], It.code [1, 1, 1, 1, 1, 1, 1, 1, 1, 1, 1, 1]] { sl := [(1, D.bp 0 0), (2, .own [B false, nilB, I 0]), (4, .own [B ng, .list (List.length dg) 1 (fun i => encB (List.getD dg i default)) (.tok 0 1), I x]), (5, D.bp 1 0), (6, oneC), (7, digC)], h := { box := upd (upd (upd (upd (fun _ => none) 0 (some (Row.lit [.str q]))) 1 (some (Row.lit [I a]))) 0 (some (Row.lit [.str q]))) 1 (some (Row.lit [I (oneA { data := #[101, 69] : ByteArray }.data.toList q a)])), nl := 2, hw := upd (fun _ => none) 0 (some (List.length dg)), nt := 1, vw := fun _ => none : Heap } : St } else At (EnX [1, 5] Tryz.f91) (fh Tryz.f91 K) [It.code [1, 1, 1, 1, 1, 1, 1, 1, 1, 1, 1, 1]] { sl := [(1, D.bp 0 0), (2, .own [B false, nilB, I 0]), (4, .own [B ng, .list (List.length dg) 1 (fun i => encB (List.getD dg i default)) (.tok 0 1), I x]), (5, D.bp 1 0)], h := { box := upd (upd (upd (upd (fun _ => none) 0 (some (Row.lit [.str q]))) 1 (some (Row.lit [I a]))) 0 (some (Row.lit [.str q]))) 1 (some (Row.lit [I (oneA { data := #[101, 69] : ByteArray }.data.toList q a)])), nl := 2, hw := upd (fun _ => none) 0 (some (List.length dg)), nt := 1, vw := fun _ => none : Heap } : St }) := by kernel_rfl
noncomputable def lvSD2 : List (List Nat × List Nat) := [([1, 1, 1, 1, 1, 1, 1, 1, 1, 1, 1, 0, 1, 0, 1, 1], [1, 2, 4, 5, 7, 10])]
noncomputable def nScD2s (q : Str) (dg : Str) (a : Int) : List Nat → Nat → Option Ans := scrAt [([1, 1, 1, 1, 1, 1, 1, 1, 1, 1, 1, 0, 1, 0, 0], 1, Ans.eff (ren (rnm [0, 1] 2) (rnm [] 1) (B (oneB { data := #[45] : ByteArray }.data.toList q a))) (frameH [0, 1] [] { box := upd (upd (fun _ => none) 0 (some (Row.lit [.str q]))) 1 (some (Row.lit [I a])), nl := 2, hw := upd (fun _ => none) 0 (some (List.length dg)), nt := 1, vw := fun _ => none : Heap } (hSc q (oneA { data := #[45] : ByteArray }.data.toList q a)))), ([1, 1, 1, 1, 1, 1, 1, 1, 1, 1, 1, 0, 1, 0, 1, 0, 1, 0], 1, Ans.eff (ren (rnm [0, 1] 2) (rnm [] 1) (B (oneB { data := #[43] : ByteArray }.data.toList q (oneA { data := #[45] : ByteArray }.data.toList q a)))) (frameH [0, 1] [] { box := upd (upd (upd (upd (fun _ => none) 0 (some (Row.lit [.str q]))) 1 (some (Row.lit [I a]))) 0 (some (Row.lit [.str q]))) 1 (some (Row.lit [I (oneA { data := #[45] : ByteArray }.data.toList q a)])), nl := 2, hw := upd (fun _ => none) 0 (some (List.length dg)), nt := 1, vw := fun _ => none : Heap } (hSc q (oneA { data := #[43] : ByteArray }.data.toList q (oneA { data := #[45] : ByteArray }.data.toList q a)))))]
theorem nScD2 [Lay] (q dg : Str) (a x : Int) (ng : Bool) (K : D → Heap → Prop) : runS (EnX [1, 5] Tryz.f91) (fh Tryz.f91 K) (nScD2s q dg a) lvSD2 200 [.code [1, 1, 1, 1, 1, 1, 1, 1, 1, 1, 1, 0, 1, 0], .code [1, 1, 1, 1, 1, 1, 1, 1, 1, 1, 1, 1]] ⟨[(1, .bp 0 0), (2, .own [B false, nilB, I 0]), (4, .own [B ng, LT dg 1 encB 0, I x]), (5, .bp 1 0), (6, oneC), (7, digC)], hScT q a dg.length⟩ =
  (Does PP 106 [.str { data := #[45] : ByteArray }.data.toList, D.bp 1 0, D.bp 0 0] { box := upd (upd (fun _ => none) 0 (some (Row.lit [.str q]))) 1 (some (Row.lit [I a])), nl := 2, hw := upd (fun _ => none) 0 (some (List.length dg)), nt := 1, vw := fun _ => none : Heap } (ren (rnm [0, 1] 2) (rnm [] 1) (B (oneB { data := #[45] : ByteArray }.data.toList q a))) (frameH [0, 1] [] { box := upd (upd (fun _ => none) 0 (some (Row.lit [.str q]))) 1 (some (Row.lit [I a])), nl := 2, hw := upd (fun _ => none) 0 (some (List.length dg)), nt := 1, vw := fun _ => none : Heap } (hSc q (oneA { data := #[45] : ByteArray }.data.toList q a))) ∧
  bif !oneB { data := #[45] : ByteArray }.data.toList q a then
    Does PP 106 [.str { data := #[43] : ByteArray }.data.toList, D.bp 1 0, D.bp 0 0] { box := upd (upd (upd (upd (fun _ => none) 0 (some (Row.lit [.str q]))) 1 (some (Row.lit [I a]))) 0 (some (Row.lit [.str q]))) 1 (some (Row.lit [I (oneA { data := #[45] : ByteArray }.data.toList q a)])), nl := 2, hw := upd (fun _ => none) 0 (some (List.length dg)), nt := 1, vw := fun _ => none : Heap } (ren (rnm [0, 1] 2) (rnm [] 1) (B (oneB { data := #[43] : ByteArray }.data.toList q (oneA { data := #[45] : ByteArray }.data.toList q a)))) (frameH [0, 1] [] { box := upd (upd (upd (upd (fun _ => none) 0 (some (Row.lit [.str q]))) 1 (some (Row.lit [I a]))) 0 (some (Row.lit [.str q]))) 1 (some (Row.lit [I (oneA { data := #[45] : ByteArray }.data.toList q a)])), nl := 2, hw := upd (fun _ => none) 0 (some (List.length dg)), nt := 1, vw := fun _ => none : Heap } (hSc q (oneA { data := #[43] : ByteArray }.data.toList q (oneA { data := #[45] : ByteArray }.data.toList q a)))) ∧
      At (EnX [1, 5] Tryz.f91) (fh Tryz.f91 K) [It.code [1, 1, 1, 1, 1, 1, 1, 1, 1, 1, 1, 0, 1, 0, 1, 1], It.code [1, 1, 1, 1, 1, 1, 1, 1, 1, 1, 1, 1]] { sl := [(1, D.bp 0 0), (2, .own [B false, nilB, I 0]), (4, .own [B ng, .list (List.length dg) 1 (fun i => encB (List.getD dg i default)) (.tok 0 1), I x]), (5, D.bp 1 0), (7, digC), (10, B (oneB { data := #[45] : ByteArray }.data.toList q a))], h := { box := upd (upd (upd (upd (upd (upd (fun _ => none) 0 (some (Row.lit [.str q]))) 1 (some (Row.lit [I a]))) 0 (some (Row.lit [.str q]))) 1 (some (Row.lit [I (oneA { data := #[45] : ByteArray }.data.toList q a)]))) 0 (some (Row.lit [.str q]))) 1 (some (Row.lit [I (oneA { data := #[43] : ByteArray }.data.toList q (oneA { data := #[45] : ByteArray }.data.toList q a))])), nl := 2, hw := upd (fun _ => none) 0 (some (List.length dg)), nt := 1, vw := fun _ => none : Heap } : St }
  else At (EnX [1, 5] Tryz.f91) (fh Tryz.f91 K) [It.code [1, 1, 1, 1, 1, 1, 1, 1, 1, 1, 1, 0, 1, 0, 1, 1], It.code [1, 1, 1, 1, 1, 1, 1, 1, 1, 1, 1, 1]] { sl := [(1, D.bp 0 0), (2, .own [B false, nilB, I 0]), (4, .own [B ng, .list (List.length dg) 1 (fun i => encB (List.getD dg i default)) (.tok 0 1), I x]), (5, D.bp 1 0), (7, digC), (10, B (oneB { data := #[45] : ByteArray }.data.toList q a))], h := { box := upd (upd (upd (upd (fun _ => none) 0 (some (Row.lit [.str q]))) 1 (some (Row.lit [I a]))) 0 (some (Row.lit [.str q]))) 1 (some (Row.lit [I (oneA { data := #[45] : ByteArray }.data.toList q a)])), nl := 2, hw := upd (fun _ => none) 0 (some (List.length dg)), nt := 1, vw := fun _ => none : Heap } : St }) := by kernel_rfl
noncomputable def lvSE : List (List Nat × List Nat) := lv91 ++ [([1, 1, 1, 1, 1, 1, 1, 1, 1, 1, 1, 1], [1, 2, 4, 5])]
noncomputable def nScEs (q : Str) (dg : Str) (a : Int) : List Nat → Nat → Option Ans := scrAt [([1, 1, 1, 1, 1, 1, 1, 1, 1, 1, 1, 0, 1, 0, 1, 1, 0], 1, Ans.eff (ren (rnm [0, 1] 2) (rnm [] 1) (.str (spanD (List.drop a.toNat q)).fst)) (frameH [0, 1] [] { box := upd (upd (fun _ => none) 0 (some (Row.lit [.str q]))) 1 (some (Row.lit [I a])), nl := 2, hw := upd (fun _ => none) 0 (some (List.length dg)), nt := 1, vw := fun _ => none : Heap } (hSc q (a + (↑(List.length (spanD (List.drop a.toNat q)).fst) : Int)))))]
theorem nScE [Lay] (q dg : Str) (a x : Int) (ng en : Bool) (K : D → Heap → Prop) : runS (EnX [1, 5] Tryz.f91) (fh Tryz.f91 K) (nScEs q dg a) lvSE 200 [.code [1, 1, 1, 1, 1, 1, 1, 1, 1, 1, 1, 0, 1, 0, 1, 1], .code [1, 1, 1, 1, 1, 1, 1, 1, 1, 1, 1, 1]] ⟨[(1, .bp 0 0), (2, .own [B false, nilB, I 0]), (4, .own [B ng, LT dg 1 encB 0, I x]), (5, .bp 1 0), (7, digC), (10, B en)], hScT q a dg.length⟩ =
  (Does PP 107 [D.bp 1 0, D.bp 0 0] { box := upd (upd (fun _ => none) 0 (some (Row.lit [.str q]))) 1 (some (Row.lit [I a])), nl := 2, hw := upd (fun _ => none) 0 (some (List.length dg)), nt := 1, vw := fun _ => none : Heap } (ren (rnm [0, 1] 2) (rnm [] 1) (.str (spanD (List.drop a.toNat q)).fst)) (frameH [0, 1] [] { box := upd (upd (fun _ => none) 0 (some (Row.lit [.str q]))) 1 (some (Row.lit [I a])), nl := 2, hw := upd (fun _ => none) 0 (some (List.length dg)), nt := 1, vw := fun _ => none : Heap } (hSc q (a + (↑(List.length (spanD (List.drop a.toNat q)).fst) : Int)))) ∧
  bif (spanD (List.drop a.toNat q)).fst == { data := #[] : ByteArray }.data.toList then True ∧ K (.tup [.agg [B ng, .list (List.length dg) 1 (fun i => encB (List.getD dg i default)) (.tok 0 1), I x], B false]) { box := upd (upd (upd (upd (fun _ => none) 0 (some (Row.lit [.str q]))) 1 (some (Row.lit [I a]))) 0 (some (Row.lit [.str q]))) 1 (some (Row.lit [I (a + (↑(List.length (spanD (List.drop a.toNat q)).fst) : Int))])), nl := 2, hw := upd (fun _ => none) 0 (some (List.length dg)), nt := 1, vw := fun _ => none : Heap } else List.length (spanD (List.drop a.toNat q)).fst ≤ lenM → At (EnX [1, 5] Tryz.f91) (fh Tryz.f91 K) [It.code [1, 1, 1, 1, 1, 1, 1, 1, 1, 1, 1, 0, 1, 0, 1, 1, 1, 1, 1, 0, 1, 0], It.blk 0, It.code [1, 1, 1, 1, 1, 1, 1, 1, 1, 1, 1, 0, 1, 0, 1, 1, 1, 1, 1, 1], It.code [1, 1, 1, 1, 1, 1, 1, 1, 1, 1, 1, 1]] { sl := [(1, D.bp 0 0), (2, .own [B false, nilB, I 0]), (4, .own [B ng, .list (List.length dg) 1 (fun i => encB (List.getD dg i default)) (.tok 0 1), I x]), (5, D.bp 1 0), (10, B en), (12, I 0), (66, .list (List.length (spanD (List.drop a.toNat q)).fst) 1 (strG (spanD (List.drop a.toNat q)).fst) .none), (67, I (↑(List.length (spanD (List.drop a.toNat q)).fst) : Int)), (68, I 0)], h := { box := upd (upd (upd (upd (fun _ => none) 0 (some (Row.lit [.str q]))) 1 (some (Row.lit [I a]))) 0 (some (Row.lit [.str q]))) 1 (some (Row.lit [I (a + (↑(List.length (spanD (List.drop a.toNat q)).fst) : Int))])), nl := 2, hw := upd (fun _ => none) 0 (some (List.length dg)), nt := 1, vw := fun _ => none : Heap } : St }) := by kernel_rfl
def SSe (q dg ed : Str) (a x : Int) (ng en : Bool) (e i : Int) : St := ⟨[(1, .bp 0 0), (2, .own [B false, nilB, I 0]), (4, .own [B ng, LT dg 1 encB 0, I x]), (5, .bp 1 0), (10, B en), (12, I e), (66, L ed 1 encB), (67, I ed.length), (68, I i)], hScT q a dg.length⟩
noncomputable def nScFs  : List Nat → Nat → Option Ans := scrAt []
theorem nScF [Lay] (q dg ed : Str) (a x : Int) (ng en : Bool) (e i : Int) (J : St → Prop) (K : D → Heap → Prop) : runS (EnX [1, 5] Tryz.f91) (fh Tryz.f91 K) (nScFs ) lvSE 200 [.code [1, 1, 1, 1, 1, 1, 1, 1, 1, 1, 1, 0, 1, 0, 1, 1, 1, 1, 1, 0, 1, 0, 0], stp [1, 2, 4, 5, 10, 12, 66, 67, 68] J, .blk 0, .code [1, 1, 1, 1, 1, 1, 1, 1, 1, 1, 1, 0, 1, 0, 1, 1, 1, 1, 1, 1], .code [1, 1, 1, 1, 1, 1, 1, 1, 1, 1, 1, 1]] (SSe q dg ed a x ng en e i) =
  (bif decide (i < (↑(List.length ed) : Int)) then (0 ≤ i ∧ i < (↑(List.length ed) : Int)) ∧ J { sl := [(1, D.bp 0 0), (2, .own [B false, nilB, I 0]), (4, .own [B ng, .list (List.length dg) 1 (fun i => encB (List.getD dg i default)) (.tok 0 1), I x]), (5, D.bp 1 0), (10, B en), (12, I (if addI .i64 (mulI .i64 10 e) (IntKind.i64.wrap (subI IntKind.u8 (↑(List.getD ed i.toNat default).toNat : Int) 48)) < 1048576 then addI .i64 (mulI .i64 10 e) (IntKind.i64.wrap (subI IntKind.u8 (↑(List.getD ed i.toNat default).toNat : Int) 48)) else 1048576)), (66, L ed 1 encB), (67, I (↑(List.length ed) : Int)), (68, I (addI .i64 i 1))], h := { box := upd (upd (fun _ => none) 0 (some (Row.lit [.str q]))) 1 (some (Row.lit [I a])), nl := 2, hw := upd (fun _ => none) 0 (some (List.length dg)), nt := 1, vw := fun _ => none : Heap } : St }
 else bif en then True ∧ At (EnX [1, 5] Tryz.f91) (fh Tryz.f91 K) [It.code [1, 1, 1, 1, 1, 1, 1, 1, 1, 1, 1, 1]] { sl := [(1, D.bp 0 0), (2, .own [B false, nilB, I 0]), (4, .own [B ng, .list (List.length dg) 1 (fun i => encB (List.getD dg i default)) (.tok 0 1), I (addI .i64 x (subI .i64 0 e))]), (5, D.bp 1 0)], h := { box := upd (upd (fun _ => none) 0 (some (Row.lit [.str q]))) 1 (some (Row.lit [I a])), nl := 2, hw := upd (fun _ => none) 0 (some (List.length dg)), nt := 1, vw := fun _ => none : Heap } : St } else True ∧ At (EnX [1, 5] Tryz.f91) (fh Tryz.f91 K) [It.code [1, 1, 1, 1, 1, 1, 1, 1, 1, 1, 1, 1]] { sl := [(1, D.bp 0 0), (2, .own [B false, nilB, I 0]), (4, .own [B ng, .list (List.length dg) 1 (fun i => encB (List.getD dg i default)) (.tok 0 1), I (addI .i64 x e)]), (5, D.bp 1 0)], h := { box := upd (upd (fun _ => none) 0 (some (Row.lit [.str q]))) 1 (some (Row.lit [I a])), nl := 2, hw := upd (fun _ => none) 0 (some (List.length dg)), nt := 1, vw := fun _ => none : Heap } : St }) := by kernel_rfl
noncomputable def nScGs (dg : Str) (x : Int) (ng : Bool) : List Nat → Nat → Option Ans := scrAt [([1, 1, 1, 1, 1, 1, 1, 1, 1, 1, 1, 1, 0], 1, Ans.pure [{ neg := ng, dig := dg, ex := x : Nm }.d] (trimF { neg := ng, dig := dg, ex := x : Nm }).d)]
theorem nScG [Lay] (q dg : Str) (a x : Int) (ng : Bool) (K : D → Heap → Prop) : runS (EnX [1, 5] Tryz.f91) (fh Tryz.f91 K) (nScGs dg x ng) nolv 200 [.code [1, 1, 1, 1, 1, 1, 1, 1, 1, 1, 1, 1]] ⟨[(1, .bp 0 0), (2, .own [B false, nilB, I 0]), (4, .own [B ng, LT dg 1 encB 0, I x]), (5, .bp 1 0)], hScT q a dg.length⟩ =
  (PureW PP 108 [.agg [B ng, .list (List.length dg) 1 (fun i => encB (List.getD dg i default)) (.tok 0 1), I x]] [{ neg := ng, dig := dg, ex := x : Nm }.d] (trimF { neg := ng, dig := dg, ex := x : Nm }).d ∧ (List.length q ≤ strM → True ∧ K (.tup [.agg [B (trimF { neg := ng, dig := dg, ex := x : Nm }).neg, L (trimF { neg := ng, dig := dg, ex := x : Nm }).dig 1 encB, I (trimF { neg := ng, dig := dg, ex := x : Nm }).ex], B (a == (↑(List.length q) : Int))]) { box := upd (upd (fun _ => none) 0 (some (Row.lit [.str q]))) 1 (some (Row.lit [I a])), nl := 2, hw := upd (fun _ => none) 0 (some (List.length dg)), nt := 1, vw := fun _ => none : Heap })) := by kernel_rfl
end Go.Proofs.YtmlhaikblfjghaaGreatDoor.S1
/- Decimals: scanning. -/
namespace Go.Proofs.YtmlhaikblfjghaaGreatDoor.S1
open Go Go.Ab Go.Proofs
theorem oneNil {e q : Str} {a : Int} (h : q.drop a.toNat = []) (h0 : 0 ≤ a) : oneB e q a = false := by
  have := List.drop_eq_nil_iff.1 h
  unfold oneB
  rw [decide_eq_false (by omega), Bool.false_and]
theorem oneCons {e q r : Str} {c : UInt8} {a : Int} (h : q.drop a.toNat = c :: r) (h0 : 0 ≤ a) : oneB e q a = e.contains c ∧ q.drop (a + 1).toNat = r ∧ a + 1 ≤ (q.length : Int) := by
  have hl : a.toNat < q.length := by
    apply Classical.byContradiction
    intro h1
    rw [List.drop_of_length_le (by omega)] at h; cases h
  rw [drop_cons _ _ hl, List.cons.injEq] at h
  have e1 : (a + 1).toNat = a.toNat + 1 := by omega
  refine ⟨?_, by rw [e1]; exact h.2, by omega⟩
  unfold oneB
  rw [decide_eq_true (by omega), Bool.true_and, ← h.1]; rfl
theorem spanAt {q : Str} {a : Int} (h0 : 0 ≤ a) (h1 : a ≤ (q.length : Int)) : q.drop (a + (spanD (q.drop a.toNat)).1.length).toNat = (spanD (q.drop a.toNat)).2 ∧ a + (spanD (q.drop a.toNat)).1.length ≤ (q.length : Int) ∧ (spanD (q.drop a.toNat)).1.length ≤ q.length := by
  have hs := spanD_len (q.drop a.toNat)
  have ha := spanD_app (q.drop a.toNat)
  rw [List.length_drop] at hs
  generalize spanD (q.drop a.toNat) = p at *
  refine ⟨?_, by omega, by omega⟩
  have : (a + (p.1.length : Int)).toNat = a.toNat + p.1.length := by omega
  rw [this, ← List.drop_drop, ha, List.drop_left']
  rfl
noncomputable abbrev scE : Env := EnX [1, 5] Tryz.f91
abbrev scK [Lay] (v : Nm × Bool) : St → Prop := fh Tryz.f91 fun d h => ∃ h', RetLe d h (.tup [v.1.d, B v.2]) h'
abbrev scP3 : List Nat := [1, 1, 1, 1, 1, 1, 1, 1, 1, 1, 1, 1]
theorem Wk.nmT {ng : Bool} {dg : Str} {x : Int} {t : Nat} : Wk (.agg [B ng, LT dg 1 encB t, I x]) (Nm.d ⟨ng, dg, x⟩) := Wk.agg (Wks.cons (Wk.refl _) (Wks.cons Wk.tokL (Wks.refl _)))
theorem scG [Lay] (q dg : Str) (a x : Int) (ng : Bool) (hl : dg.length ≤ 1000000) (h1 : -1000000000 ≤ x) (h2 : x ≤ 1000000000) (ok : Bool) (hok : ok = decide (a = (q.length : Int))) :
    At scE (scK (trimF ⟨ng, dg, x⟩, ok)) [.code scP3] ⟨[(1, .bp 0 0), (2, .own [B false, nilB, I 0]), (4, .own [B ng, LT dg 1 encB 0, I x]), (5, .bp 1 0)], hScT q a dg.length⟩ := by
  subst hok
  exact runS_sound hmix _ _ _ (of_eq (nScG q dg a x ng _) ⟨⟨Wks.cons Wk.nmT (Wks.refl _), c108 ⟨ng, dg, x⟩ hl h1 h2⟩, fun _ => ⟨trivial, _, RetLe.refl _ _⟩⟩)
theorem emp (r : Str) : (r == ({ data := #[] : ByteArray }.data.toList : Str)) = decide (r = []) := by
  cases r <;> rfl
theorem mulD {a b : Int} (h : -9223372036854775808 ≤ a * b) (k : a * b ≤ 9223372036854775807) : mulI .i64 a b = a * b := IntWalk.i64_in _ ⟨h, k⟩
theorem expV_le (c : Nat) (q : Str) : expV c q ≤ c := by rw [expV_eq]; omega
theorem scEx [Lay] (q dg : Str) (a x : Int) (ng en : Bool) (hq : q.length ≤ 64) (hl : dg.length ≤ 1000) (hx : -1000 ≤ x ∧ x ≤ 0) (h0 : 0 ≤ a) (ha : a ≤ (q.length : Int)) :
    At scE (scK (if (spanD (q.drop a.toNat)).1 = [] then (⟨ng, dg, x⟩, false) else (trimF ⟨ng, dg, x + (if en = true then - (expV 1048576 (spanD (q.drop a.toNat)).1 : Int) else (expV 1048576 (spanD (q.drop a.toNat)).1 : Int))⟩, decide ((spanD (q.drop a.toNat)).2 = []))))
      [.code [1, 1, 1, 1, 1, 1, 1, 1, 1, 1, 1, 0, 1, 0, 1, 1], .code scP3] ⟨[(1, .bp 0 0), (2, .own [B false, nilB, I 0]), (4, .own [B ng, LT dg 1 encB 0, I x]), (5, .bp 1 0), (7, digC), (10, B en)], hScT q a dg.length⟩ := by
  obtain ⟨s1, s2, s3⟩ := spanAt h0 ha
  refine runS_sound hmix _ _ _ (of_eq (nScE q dg a x ng en _) ⟨fr (e107 q a h0 ha (by omega)) [0, 1] [], ?_⟩)
  rw [emp]
  have hend : decide ((spanD (q.drop a.toNat)).2 = []) = decide (a + (spanD (q.drop a.toNat)).1.length = (q.length : Int)) := by
    rw [decide_eq_decide, ← s1, List.drop_eq_nil_iff]; omega
  rw [hend]
  have hdg := spanD_dg (q.drop a.toNat)
  generalize (spanD (q.drop a.toNat)).1 = ed at *
  generalize hb : a + (ed.length : Int) = b at *
  refine cond_intro (fun h => ⟨trivial, _, RetLe.wk ?_ rfl⟩) fun h => fun hlm => ?_
  · rw [if_pos (of_decide_eq_true h)]
    exact Wk.tup (Wks.cons Wk.nmT (Wks.refl _))
  rw [if_neg (of_decide_eq_false h)]
  refine at_le (st' := SSe q dg ed b x ng en (0 : Nat) (0 : Nat)) ?_ (StLe.heap (hp_eq (fun k => by rcases k with _ | _ | k <;> rfl) rfl rfl))
  refine lp (fn := Tryz.f91) (fun z : Nat × Nat => z.1 ≤ ed.length ∧ z.2 ≤ 1048576 ∧ expV 1048576 ed = (ed.drop z.1).foldl (fun e c => min 1048576 (10 * e + dgt c)) z.2) (fun z => SSe q dg ed b x ng en (z.2 : Nat) (z.1 : Nat)) (fun z => ed.length - z.1) [1, 2, 4, 5, 10, 12, 66, 67, 68] (by kernel_rfl) (fun z hz => of_eq (nScF q dg ed b x ng en (z.2 : Nat) (z.1 : Nat) _ _) ?_) (0, 0) ⟨Nat.zero_le _, Nat.zero_le _, rfl⟩
  obtain ⟨i, e⟩ := z
  obtain ⟨hi, he, hv⟩ := hz
  simp only at hi he hv ⊢
  refine cond_intro (fun hlt => ?_) fun hge => ?_
  · have hlt := ltI hlt
    rw [drop_cons _ _ hlt, List.foldl_cons] at hv
    have hc : isDg (ed.getD i default) = true := List.all_eq_true.1 hdg _ (by rw [List.getD_eq_getElem?_getD, List.getElem?_eq_getElem hlt]; exact List.getElem_mem hlt)
    rw [Int.toNat_natCast, add1 hlt hlm]
    generalize ed.getD i default = c at *
    have hc9 := dgt_le hc
    have hc48 := of_decide_eq_true hc
    have e1 : IntKind.i64.wrap (subI .u8 (c.toNat : Int) 48) = ((dgt c : Nat) : Int) := by
      unfold subI dgt
      rw [IntWalk.u8_in _ ⟨by omega, by omega⟩, IntWalk.i64_in _ ⟨by omega, by omega⟩]; omega
    have e2 : addI .i64 (mulI .i64 10 (e : Int)) ((dgt c : Nat) : Int) = ((10 * e + dgt c : Nat) : Int) := by
      rw [mulD (by omega) (by omega), add64 (by omega) (by omega)]; omega
    have e3 : (if ((10 * e + dgt c : Nat) : Int) < 1048576 then ((10 * e + dgt c : Nat) : Int) else 1048576) = ((min 1048576 (10 * e + dgt c) : Nat) : Int) := by
      split <;> omega
    rw [e1, e2, e3]
    exact ⟨⟨by omega, by omega⟩, Nx.mk (i + 1, min 1048576 (10 * e + dgt c)) ⟨hlt, by simp only; omega, hv⟩ (by simp only; omega)⟩
  · rw [List.drop_of_length_le (geI hge), List.foldl_nil] at hv
    rw [hv]
    cases en
    · refine ⟨trivial, ?_⟩
      rw [add64 (by omega) (by omega)]
      exact scG q dg b (x + e) ng (by omega) (by omega) (by omega) _ rfl
    · refine ⟨trivial, ?_⟩
      rw [sub64 (by omega) (by omega), add64 (by omega) (by omega), Int.zero_sub]
      exact scG q dg b (x + -(e : Int)) ng (by omega) (by omega) (by omega) _ rfl
end Go.Proofs.YtmlhaikblfjghaaGreatDoor.S1
/- Decimals: scanning, whole. -/
namespace Go.Proofs.YtmlhaikblfjghaaGreatDoor.S1
open Go Go.Ab Go.Proofs
/-- Behind the digits. -/
def tlG (ng : Bool) (dg : Str) (x : Int) : Str → Nm × Bool
  | [] => (trimF ⟨ng, dg, x⟩, true)
  | c :: r => if c = 101 ∨ c = 69 then
      (if (spanD (sgnS r).2).1 = [] then (⟨ng, dg, x⟩, false) else (trimF ⟨ng, dg, x + (if (sgnS r).1 = true then - (expV 1048576 (spanD (sgnS r).2).1 : Int) else (expV 1048576 (spanD (sgnS r).2).1 : Int))⟩, decide ((spanD (sgnS r).2).2 = [])))
    else (trimF ⟨ng, dg, x⟩, false)
def frG (ng : Bool) (wh : Str) : Str → Nm × Bool
  | [] => tlG ng wh 0 []
  | c :: r => if c = 46 then (if (spanD r).1 = [] then (⟨ng, wh, 0⟩, false) else tlG ng (wh ++ (spanD r).1) (-((spanD r).1.length : Int)) (spanD r).2) else tlG ng wh 0 (c :: r)
def scF (q : Str) : Nm × Bool :=
  if q.length > 64 then (nm0, false)
  else if (spanD (sgnS q).2).1 = [] then (⟨(sgnS q).1, [], 0⟩, false)
  else frG (sgnS q).1 (spanD (sgnS q).2).1 (spanD (sgnS q).2).2
abbrev scS (q dg : Str) (a x : Int) (ng : Bool) : St := ⟨[(1, .bp 0 0), (2, .own [B false, nilB, I 0]), (4, .own [B ng, LT dg 1 encB 0, I x]), (5, .bp 1 0), (6, oneC), (7, digC)], hScT q a dg.length⟩
theorem e45 : ({ data := #[45] : ByteArray }.data.toList : Str) = [45] := rfl
theorem e43 : ({ data := #[43] : ByteArray }.data.toList : Str) = [43] := rfl
theorem e46 [Lay] : ({ data := #[46] : ByteArray }.data.toList : Str) = [46] := rfl
theorem eEe : ({ data := #[101, 69] : ByteArray }.data.toList : Str) = [101, 69] := rfl
theorem ctn1 (a c : UInt8) : ([a] : Str).contains c = decide (c = a) := by
  rw [Bool.eq_iff_iff]; simp
theorem ctn2 (a b c : UInt8) : ([a, b] : Str).contains c = decide (c = a ∨ c = b) := by
  rw [Bool.eq_iff_iff]; simp
theorem sgn3S (r : Str) : (sgnS r = (false, r) ∧ (∀ c t, r = c :: t → c ≠ 45 ∧ c ≠ 43)) ∨ (∃ t, r = 45 :: t ∧ sgnS r = (true, t)) ∨ (∃ t, r = 43 :: t ∧ sgnS r = (false, t)) := by
  cases r with
  | nil => exact .inl ⟨rfl, fun _ _ h => by cases h⟩
  | cons c t =>
    rw [sgnS]
    by_cases h1 : c = 45
    · subst h1; exact .inr (.inl ⟨t, rfl, rfl⟩)
    · rw [if_neg h1]
      by_cases h2 : c = 43
      · subst h2; exact .inr (.inr ⟨t, rfl, rfl⟩)
      · rw [if_neg h2]
        exact .inl ⟨rfl, fun c' t' h => by cases h; exact ⟨h1, h2⟩⟩
/-- A sign in front of the rest: where it ends. -/
theorem sgnAt {q : Str} {a : Int} (h0 : 0 ≤ a) (h1 : a ≤ (q.length : Int)) : oneB [45] q a = (sgnS (q.drop a.toNat)).1 ∧
    (oneB [45] q a = true → q.drop (a + 1).toNat = (sgnS (q.drop a.toNat)).2 ∧ a + 1 ≤ (q.length : Int)) ∧
    (oneB [45] q a = false → q.drop (oneA [43] q a).toNat = (sgnS (q.drop a.toNat)).2 ∧ oneA [43] q a ≤ (q.length : Int) ∧ 0 ≤ oneA [43] q a) := by
  rcases sgn3S (q.drop a.toNat) with ⟨h, hn⟩ | ⟨t, hr, h⟩ | ⟨t, hr, h⟩
  · have k : oneB [45] q a = false ∧ oneB [43] q a = false := by
      cases hr : q.drop a.toNat with
      | nil => exact ⟨oneNil hr h0, oneNil hr h0⟩
      | cons c t =>
        obtain ⟨n1, n2⟩ := hn c t hr
        rw [(oneCons hr h0).1, (oneCons hr h0).1, ctn1, ctn1, decide_eq_false n1, decide_eq_false n2]
        exact ⟨rfl, rfl⟩
    rw [h, k.1]
    refine ⟨rfl, fun h => (by cases h), fun _ => ?_⟩
    unfold oneA
    rw [k.2, if_neg (by simp)]
    exact ⟨rfl, h1, h0⟩
  · obtain ⟨k1, k2, k3⟩ := oneCons (e := [45]) hr h0
    rw [h, k1, ctn1, decide_eq_true rfl]
    exact ⟨rfl, fun _ => ⟨k2, k3⟩, fun h => (by cases h)⟩
  · obtain ⟨k1, k2, k3⟩ := oneCons (e := [45]) hr h0
    obtain ⟨m1, _, _⟩ := oneCons (e := [43]) hr h0
    rw [h, k1, ctn1, decide_eq_false (by decide)]
    refine ⟨rfl, fun h => (by cases h), fun _ => ?_⟩
    unfold oneA
    rw [m1, ctn1, decide_eq_true rfl, if_pos rfl]
    exact ⟨k2, k3, by omega⟩
/-- From the letter e on. -/
theorem scD2 [Lay] (q dg : Str) (a x : Int) (ng : Bool) (hq : q.length ≤ 64) (hl : dg.length ≤ 1000) (hx : -1000 ≤ x ∧ x ≤ 0) (h0 : 0 ≤ a) (ha : a ≤ (q.length : Int)) (r : Str) (hr : q.drop a.toNat = r) :
    At scE (scK (if (spanD (sgnS r).2).1 = [] then (⟨ng, dg, x⟩, false) else (trimF ⟨ng, dg, x + (if (sgnS r).1 = true then - (expV 1048576 (spanD (sgnS r).2).1 : Int) else (expV 1048576 (spanD (sgnS r).2).1 : Int))⟩, decide ((spanD (sgnS r).2).2 = []))))
      [.code [1, 1, 1, 1, 1, 1, 1, 1, 1, 1, 1, 0, 1, 0], .code scP3] (scS q dg a x ng) := by
  subst hr
  obtain ⟨g1, g2, g3⟩ := sgnAt h0 ha
  refine runS_sound hmix _ _ _ (of_eq (nScD2 q dg a x ng _) ⟨fr (e106 _ q a h0 (by omega) (by decide)) [0, 1] [], ?_⟩)
  rw [e45, e43]
  cases hb : oneB [45] q a
  · obtain ⟨k1, k2, k3⟩ := g3 hb
    have hA : oneA [45] q a = a := by unfold oneA; rw [hb, if_neg (by simp)]
    rw [hA]
    refine ⟨fr (e106 _ q a h0 (by omega) (by decide)) [0, 1] [], ?_⟩
    rw [← g1, hb, ← k1]
    refine at_le (st' := ⟨[(1, .bp 0 0), (2, .own [B false, nilB, I 0]), (4, .own [B ng, LT dg 1 encB 0, I x]), (5, .bp 1 0), (7, digC), (10, B false)], hScT q (oneA [43] q a) dg.length⟩) (scEx q dg (oneA [43] q a) x ng false hq hl hx k3 k2) (StLe.heap (hp_eq (fun k => by rcases k with _ | _ | k <;> rfl) rfl rfl))
  · obtain ⟨k1, k2⟩ := g2 hb
    have hA : oneA [45] q a = a + 1 := by unfold oneA; rw [hb, if_pos rfl]
    rw [hA, ← g1, hb, ← k1]
    refine at_le (st' := ⟨[(1, .bp 0 0), (2, .own [B false, nilB, I 0]), (4, .own [B ng, LT dg 1 encB 0, I x]), (5, .bp 1 0), (7, digC), (10, B true)], hScT q (a + 1) dg.length⟩) (scEx q dg (a + 1) x ng true hq hl hx (by omega) k2) (StLe.heap (hp_eq (fun k => by rcases k with _ | _ | k <;> rfl) rfl rfl))
theorem scD [Lay] (q dg : Str) (a x : Int) (ng : Bool) (hq : q.length ≤ 64) (hl : dg.length ≤ 1000) (hx : -1000 ≤ x ∧ x ≤ 0) (h0 : 0 ≤ a) (ha : a ≤ (q.length : Int)) (r : Str) (hr : q.drop a.toNat = r) :
    At scE (scK (tlG ng dg x r)) [.code [1, 1, 1, 1, 1, 1, 1, 1, 1, 1, 1]] (scS q dg a x ng) := by
  refine runS_sound hmix _ _ _ (of_eq (nScD q dg a x ng _) ⟨fr (e106 _ q a h0 (by omega) (by decide)) [0, 1] [], ?_⟩)
  rw [eEe]
  cases r with
  | nil =>
    have hb := oneNil (e := [101, 69]) hr h0
    have hA : oneA [101, 69] q a = a := by unfold oneA; rw [hb, if_neg (by simp)]
    rw [hb, hA]
    have := List.drop_eq_nil_iff.1 hr
    exact at_le (st' := ⟨[(1, .bp 0 0), (2, .own [B false, nilB, I 0]), (4, .own [B ng, LT dg 1 encB 0, I x]), (5, .bp 1 0)], hScT q a dg.length⟩) (scG q dg a x ng (by omega) (by omega) (by omega) true (decide_eq_true (by omega)).symm) (StLe.heap (hp_eq (fun k => by rcases k with _ | _ | k <;> rfl) rfl rfl))
  | cons c t =>
    obtain ⟨k1, k2, k3⟩ := oneCons (e := [101, 69]) hr h0
    rw [ctn2] at k1
    rw [tlG]
    by_cases hc : c = 101 ∨ c = 69
    · rw [decide_eq_true hc] at k1
      have hA : oneA [101, 69] q a = a + 1 := by unfold oneA; rw [k1, if_pos rfl]
      rw [k1, hA, if_pos hc]
      exact at_le (st' := scS q dg (a + 1) x ng) (scD2 q dg (a + 1) x ng hq hl hx (by omega) k3 t k2) (StLe.heap (hp_eq (fun k => by rcases k with _ | _ | k <;> rfl) rfl rfl))
    · rw [decide_eq_false hc] at k1
      have hA : oneA [101, 69] q a = a := by unfold oneA; rw [k1, if_neg (by simp)]
      rw [k1, hA, if_neg hc]
      exact at_le (st' := ⟨[(1, .bp 0 0), (2, .own [B false, nilB, I 0]), (4, .own [B ng, LT dg 1 encB 0, I x]), (5, .bp 1 0)], hScT q a dg.length⟩) (scG q dg a x ng (by omega) (by omega) (by omega) false (decide_eq_false (by omega)).symm) (StLe.heap (hp_eq (fun k => by rcases k with _ | _ | k <;> rfl) rfl rfl))
theorem scC [Lay] (q wh : Str) (a : Int) (ng : Bool) (hq : q.length ≤ 64) (hl : wh.length ≤ 64) (h0 : 0 ≤ a) (ha : a ≤ (q.length : Int)) (r : Str) (hr : q.drop a.toNat = r) :
    At scE (scK (frG ng wh r)) [.code [1, 1, 1, 1, 1, 1, 1, 1, 1, 1]] (scS q wh a 0 ng) := by
  have hK : ∀ (h : q.drop a.toNat = r) (hb : oneB [46] q a = false), At scE (scK (tlG ng wh 0 r)) [.code [1, 1, 1, 1, 1, 1, 1, 1, 1, 1, 1]] (scS q wh a 0 ng) := fun h _ => scD q wh a 0 ng hq (by omega) (by omega) h0 ha r h
  refine runS_sound hmix _ _ _ (of_eq (nScC q wh a ng _) ⟨fr (e106 _ q a h0 (by omega) (by decide)) [0, 1] [], ?_⟩)
  rw [e46]
  cases r with
  | nil =>
    have hb := oneNil (e := [46]) hr h0
    have hA : oneA [46] q a = a := by unfold oneA; rw [hb, if_neg (by simp)]
    rw [hb, hA, frG]
    exact at_le (st' := scS q wh a 0 ng) (hK hr hb) (StLe.heap (hp_eq (fun k => by rcases k with _ | _ | k <;> rfl) rfl rfl))
  | cons c t =>
    obtain ⟨k1, k2, k3⟩ := oneCons (e := [46]) hr h0
    rw [ctn1] at k1
    rw [frG]
    by_cases hc : c = 46
    · rw [decide_eq_true hc] at k1
      have hA : oneA [46] q a = a + 1 := by unfold oneA; rw [k1, if_pos rfl]
      obtain ⟨s1, s2, s3⟩ := spanAt (q := q) (a := a + 1) (by omega) k3
      rw [k1, hA, if_pos hc, emp]
      refine ⟨fr (e107 q (a + 1) (by omega) k3 (by omega)) [0, 1] [], ?_⟩
      rw [k2] at s1 s2 s3 ⊢
      refine cond_intro (fun h => ⟨trivial, _, RetLe.wk ?_ rfl⟩) fun h => ⟨⟨rfl, by unfold roomM; omega⟩, trivial, fun _ => ⟨trivial, ?_⟩⟩
      · rw [if_pos (of_decide_eq_true h)]
        exact Wk.tup (Wks.cons Wk.nmT (Wks.refl _))
      · rw [if_neg (of_decide_eq_false h), sub64 (by omega) (by omega), Int.zero_sub]
        refine at_le (st' := scS q (wh ++ (spanD t).1) (a + 1 + (spanD t).1.length) (-((spanD t).1.length : Int)) ng) (scD q (wh ++ (spanD t).1) (a + 1 + (spanD t).1.length) (-((spanD t).1.length : Int)) ng hq (by rw [List.length_append]; omega) (by omega) (by omega) s2 (spanD t).2 s1) ?_
        refine (StLe.setOwn (by simp) 4 rfl (Wks.cons (Wk.refl _) (Wks.cons (Wk.app (a := wh) (b := (spanD t).1) (sz := 1) (enc := encB) (own' := .tok 0 1) rfl rfl (fun i hi => ?_) (.inr rfl)) (Wks.refl _)))).trans (StLe.heap (hp_eq (fun k => by rcases k with _ | _ | k <;> rfl) ?_ rfl))
        · rfl
        · rw [List.length_append, upd_upd]
    · rw [decide_eq_false hc] at k1
      have hA : oneA [46] q a = a := by unfold oneA; rw [k1, if_neg (by simp)]
      rw [k1, hA, if_neg hc]
      exact at_le (st' := scS q wh a 0 ng) (hK hr k1) (StLe.heap (hp_eq (fun k => by rcases k with _ | _ | k <;> rfl) rfl rfl))
theorem scB [Lay] (q : Str) (a : Int) (ng : Bool) (hq : q.length ≤ 64) (h0 : 0 ≤ a) (ha : a ≤ (q.length : Int)) (r : Str) (hr : q.drop a.toNat = r) :
    At scE (scK (if (spanD r).1 = [] then (⟨ng, [], 0⟩, false) else frG ng (spanD r).1 (spanD r).2)) [.code [1, 1, 1, 1, 1, 1, 1]] ⟨[(1, .bp 0 0), (2, .own [B false, nilB, I 0]), (4, .own [B ng, nilB, I 0]), (5, .bp 1 0), (6, oneC), (7, digC)], hSc q a⟩ := by
  subst hr
  obtain ⟨s1, s2, s3⟩ := spanAt h0 ha
  refine runS_sound hmix _ _ _ (of_eq (nScB q a ng _) ⟨e107 q a h0 ha (by omega), ?_⟩)
  rw [emp]
  generalize spanD (q.drop a.toNat) = p at *
  refine cond_intro (fun h => ⟨trivial, _, RetLe.wk ?_ rfl⟩) fun h => ⟨by unfold roomM; omega, trivial, ?_⟩
  · rw [if_pos (of_decide_eq_true h)]
    exact Wk.tup (Wks.cons (Wk.agg (Wks.cons (Wk.refl _) (Wks.cons Wk.nilL (Wks.refl _)))) (Wks.refl _))
  · rw [if_neg (of_decide_eq_false h)]
    refine at_le (st' := scS q p.1 (a + p.1.length) 0 ng) (scC q p.1 (a + p.1.length) ng hq (by omega) (by omega) s2 p.2 s1) ?_
    refine (StLe.setOwn (by simp) 4 rfl (Wks.cons (Wk.refl _) (Wks.cons (Wk.app (a := ([] : Str)) (b := p.1) (sz := 1) (enc := encB) (own' := .tok 0 1) rfl rfl (fun i hi => ?_) (.inr rfl)) (Wks.refl _)))).trans (StLe.heap (hp_eq (fun k => by rcases k with _ | _ | k <;> rfl) ?_ rfl))
    · rfl
    · rw [Nat.zero_add]
theorem c91 [Lay] (q : Str) : Pure PP 91 [.str q] (.tup [(scF q).1.d, B (scF q).2]) := by
  refine pr F91 (by kernel_rfl) (of_eq (nScA q _) ⟨trivial, fun _ => cond_intro (fun h => ⟨trivial, _, RetLe.wk ?_ rfl⟩) fun h => ⟨trivial, trivial, ?_⟩⟩)
  · have h : q.length > 64 := by have := of_decide_eq_true h; omega
    unfold scF
    rw [if_pos h]
    exact Wk.tup (Wks.cons (Wk.agg (Wks.cons (Wk.refl _) (Wks.cons Wk.nilL (Wks.refl _)))) (Wks.refl _))
  have hq : q.length ≤ 64 := by have := of_decide_eq_false h; omega
  have hF : scF q = if (spanD (sgnS q).2).1 = [] then (⟨(sgnS q).1, [], 0⟩, false) else frG (sgnS q).1 (spanD (sgnS q).2).1 (spanD (sgnS q).2).2 := by
    unfold scF; rw [if_neg (by omega)]
  rw [hF]
  refine at_le (st' := ⟨[(1, .bp 0 0), (2, .own [B false, nilB, I 0]), (4, .own [B false, nilB, I 0]), (5, .bp 1 0), (6, oneC), (7, digC)], hSc q 0⟩) ?_ (StLe.heap (hSc_set q 0 0))
  obtain ⟨g1, g2, g3⟩ := sgnAt (q := q) (a := 0) (by omega) (by omega)
  rw [show (0 : Int).toNat = 0 from rfl, List.drop_zero] at g1 g2 g3
  refine runS_sound hmix _ _ _ (of_eq (nScA2 q _) ⟨e106 _ q 0 (by omega) (by omega) (by decide), ?_⟩)
  rw [e45, e43]
  cases hb : oneB [45] q 0
  · obtain ⟨k1, k2, k3⟩ := g3 hb
    have hA : oneA [45] q 0 = 0 := by unfold oneA; rw [hb, if_neg (by simp)]
    rw [hA, ← g1, hb]
    exact ⟨e106 _ q 0 (by omega) (by omega) (by decide), scB q (oneA [43] q 0) false hq k3 k2 _ k1⟩
  · obtain ⟨k1, k2⟩ := g2 hb
    have hA : oneA [45] q 0 = 0 + 1 := by unfold oneA; rw [hb, if_pos rfl]
    rw [hA, ← g1, hb]
    exact ⟨trivial, scB q (0 + 1) true hq (by omega) k2 _ k1⟩
end Go.Proofs.YtmlhaikblfjghaaGreatDoor.S1
