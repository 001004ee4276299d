/- Seat 2: the laws' types as Lean data; words for contracts. -/
import Derived.Test.YtmlhaikblfjghaaGreatDoorB7
import Derived.Test.YtmlhaikblfjghaaGreatDoorChecked
namespace Go.Proofs.YtmlhaikblfjghaaGreatDoor.S1
open Go Go.Ab Go.Proofs Go.Proofs.YtmlhaikblfjghaaGreatDoor

def cfg0 : Cfg := ⟨fun _ => false, fun _ => false⟩
noncomputable abbrev PP : Program := Tryz.prog
noncomputable abbrev EnC (c : Cfg) (f : Func) : Env := ⟨Tryz.prog, c, f.body.getD .skip, f.ntmps⟩
noncomputable abbrev En (f : Func) : Env := EnC cfg0 f
def cfgX (l : List Nat) : Cfg := ⟨fun d => l.any (Nat.beq d), fun _ => false⟩
def cfgV (l v : List Nat) : Cfg := ⟨fun d => l.any (Nat.beq d), fun d => v.any (Nat.beq d)⟩
/-- A function some of whose boxes lie in the heap. -/
noncomputable abbrev EnX (l : List Nat) (f : Func) : Env := EnC (cfgX l) f
/-- And some of whose slices are arrays of its own. -/
noncomputable abbrev EnV (l v : List Nat) (f : Func) : Env := EnC (cfgV l v) f
noncomputable abbrev fi (f : Func) (K : D → Prop) : St → Prop := finK Tryz.prog f.results.toList fun d _ => K d
noncomputable abbrev fh (f : Func) (K : D → Heap → Prop) : St → Prop := finK Tryz.prog f.results.toList K
def nolv : List (List Nat × List Nat) := []
abbrev stp (l : List Nat) (J : St → Prop) : It := .stop fun st => J (keepSt l st)

theorem hmix : Tryz.prog.follows .mixedOrders = true := by kernel_rfl

class DD (d : D) : Prop where
  p : Ab.Data d
class DS (ds : List D) : Prop where
  p : Datas ds
instance : DS [] := ⟨trivial⟩
instance {d : D} {ds : List D} [h : DD d] [k : DS ds] : DS (d :: ds) := ⟨h.p, k.p⟩
instance {n : Int} {k : IntKind} : DD (.int k n) := ⟨trivial⟩
instance {b : Bool} : DD (.bool b) := ⟨trivial⟩
instance {s : List UInt8} : DD (.str s) := ⟨trivial⟩
instance {ds : List D} [h : DS ds] : DD (.agg ds) := ⟨h.p⟩
instance {ds : List D} [h : DS ds] : DD (.tup ds) := ⟨h.p⟩
instance {f : Nat} {ds : List D} [h : DS ds] : DD (.clo f ds) := ⟨h.p⟩
instance {α : Type} [Inhabited α] {es : List α} {sz : Nat} {enc : α → D} [h : ∀ x, DD (enc x)] : DD (L es sz enc) := ⟨L.data fun x => (h x).p⟩

structure Iv where (frm to : Int) deriving Inhabited, DecidableEq
def Iv.d (x : Iv) : D := .agg [I x.frm, I x.to]
structure Sp where (frm to : Int) (val : List UInt8) deriving Inhabited, DecidableEq
def Sp.d (x : Sp) : D := .agg [I x.frm, I x.to, .str x.val]
structure Chg where (time : Int) (val : List UInt8) deriving Inhabited, DecidableEq
def Chg.d (x : Chg) : D := .agg [I x.time, .str x.val]
structure Sig where (kind width : Int) (chg : List Chg) deriving Inhabited, DecidableEq
def Sig.d (x : Sig) : D := .agg [I x.kind, I x.width, L x.chg 2 Chg.d]
structure Wv where (sig : List Sig) (gap : List Iv) (fin : Int) deriving Inhabited, DecidableEq
def Wv.cs (x : Wv) : List D := [L x.sig 3 Sig.d, L x.gap 2 Iv.d, I x.fin]
def Wv.d (x : Wv) : D := .agg x.cs
structure Rw where (frm to : Int) (vals : List (List UInt8)) deriving Inhabited, DecidableEq
def Rw.d (x : Rw) : D := .agg [I x.frm, I x.to, L x.vals 1 D.str]
instance {x : Iv} : DD x.d := inferInstanceAs (DD (.agg _))
instance {x : Sp} : DD x.d := inferInstanceAs (DD (.agg _))
instance {x : Chg} : DD x.d := inferInstanceAs (DD (.agg _))
instance {x : Sig} : DD x.d := inferInstanceAs (DD (.agg _))
instance {x : Wv} : DD x.d := inferInstanceAs (DD (.agg [_, _, _]))
instance {x : Rw} : DD x.d := inferInstanceAs (DD (.agg _))

/-- Function f of the program, whole. -/
structure OkF (f : Nat) (fn : Func) : Prop where
  hf : PP.funcs[f]? = some fn
  hb : fn.body = some (fn.body.getD .skip)
  hn : (fn.name == "runtime.NumGoroutine") = false

theorem pu [Lay] {f : Nat} {fn : Func} (o : OkF f fn) {args : List D} {v : D} [da : DS args] [dv : DD v] (hn : Nat.ble args.length fn.ntmps = true) {cfg : Cfg} {sc : List Nat → Nat → Option Ans} {lv : List (List Nat × List Nat)} {N : Nat}
    (hr : runS (EnC cfg fn) (fi fn fun d => Wk d v) sc lv N [.code []] ⟨argSlots 0 args, .empty⟩) : Pure PP f args v := pure_of_runS hmix o.hf o.hb o.hn da.p dv.p hn hr

theorem du [Lay] {f : Nat} {fn : Func} (o : OkF f fn) {args : List D} {v : D} {h h' : Heap} (hn : Nat.ble args.length fn.ntmps = true) {cfg : Cfg} {sc : List Nat → Nat → Option Ans} {lv : List (List Nat × List Nat)} {N : Nat}
    (hr : runS (EnC cfg fn) (fh fn fun d h'' => RetLe d h'' v h') sc lv N [.code []] ⟨argSlots 0 args, h⟩) : Does PP f args h v h' := Does.of_call (callA_of_runS hmix o.hf o.hb o.hn hn hr)

theorem pr [Lay] {f : Nat} {fn : Func} (o : OkF f fn) {args : List D} {v : D} [da : DS args] [dv : DD v] (hn : Nat.ble args.length fn.ntmps = true) {cfg : Cfg} {sc : List Nat → Nat → Option Ans} {lv : List (List Nat × List Nat)} {N : Nat}
    (hr : runS (EnC cfg fn) (fh fn fun d h => ∃ h', RetLe d h v h') sc lv N [.code []] ⟨argSlots 0 args, .empty⟩) : Pure PP f args v := pure_of_runR hmix o.hf o.hb o.hn da.p dv.p hn hr

mutual
theorem renOk_data : ∀ d : D, Ab.Data d → RenOk d
  | .bool _, _ | .int _ _, _ | .str _, _ | .nilp, _ | .nilf, _ | .nili, _ | .nilm, _ | .fnp _ _, _ => trivial
  | .bp _ _, _ | .sl _ _ _, _ | .mp _, _ | .yl _, _ | .vec _ _ _, _ | .bv _ _ _, _ | .be _ _ _ _ _, _ | .own _, _ | .lp _ _, _ | .may _ _ _, _ | .junk, _ => trivial
  | .list _ _ _ _, h => by simp only [Ab.Data] at h; simp only [RenOk]; exact h.1
  | .agg cs, h => by simp only [Ab.Data] at h; simp only [RenOk]; exact renOks_data cs h
  | .tup cs, h => by simp only [Ab.Data] at h; simp only [RenOk]; exact renOks_data cs h
  | .clo _ cs, h => by simp only [Ab.Data] at h; simp only [RenOk]; exact renOks_data cs h
  | .mv _ cs, h => by simp only [Ab.Data] at h; simp only [RenOk]; exact renOks_data cs h
  | .ep cs, h => by simp only [Ab.Data] at h; simp only [RenOk]; exact renOks_data cs h
  | .iface _ d, h => by simp only [Ab.Data] at h; simp only [RenOk]; exact renOk_data d h
theorem renOks_data : ∀ ds : List D, Datas ds → RenOks ds
  | [], _ => trivial
  | d :: r, h => by simp only [Datas] at h; simp only [RenOks]; exact ⟨renOk_data d h.1, renOks_data r h.2⟩
end
instance (priority := 10) {d : D} [h : DD d] : RO d := ⟨renOk_data d h.p⟩
instance {l o : Nat} : RO (.bp l o) := ⟨trivial⟩
instance {l : Nat} : RO (.mp l) := ⟨trivial⟩
instance {t n sz : Nat} : RO (.vec t n sz) := ⟨trivial⟩
instance {t n i sz j : Nat} : RO (.be t n i sz j) := ⟨trivial⟩
instance {e t n : Nat} : RO (.bv e t n) := ⟨trivial⟩
instance {f : Nat → Option Row} {k T : Nat} {cs : List D} [h : RB f] [r : ROs cs] : RB (upd f k (some (.litT T cs))) := ⟨fun l row e => by
  by_cases hx : l = k
  · subst hx; rw [upd_same] at e; cases e; exact r.p
  · rw [upd_other _ _ hx] at e; exact h.p l row e⟩
instance {n sz : Nat} {get : Nat → D} {own : Own} [h : ∀ i, DD (get i)] : RO (.list n sz get own) := ⟨fun i _ => (h i).p⟩
instance {α : Type} [Inhabited α] {es : List α} {sz t : Nat} {enc : α → D} [h : ∀ x, DD (enc x)] : RO (LT es sz enc t) := ⟨fun _ _ => (h _).p⟩
instance {α : Type} [Inhabited α] {es : List α} {enc : α → D} [h : ∀ x, DD (enc x)] {i : Nat} : DD (cv es enc i) := ⟨(h _).p⟩
instance : ROs [] := ⟨trivial⟩
instance {d : D} {ds : List D} [h : RO d] [k : ROs ds] : ROs (d :: ds) := ⟨h.p, k.p⟩
instance {ds : List D} [h : ROs ds] : RO (.agg ds) := ⟨h.p⟩
instance {ds : List D} [h : ROs ds] : RO (.tup ds) := ⟨h.p⟩
instance {f : Nat} {ds : List D} [h : ROs ds] : RO (.clo f ds) := ⟨h.p⟩
instance {f : Nat} {ds : List D} [h : ROs ds] : RO (.mv f ds) := ⟨h.p⟩
instance {t : Nat} {d : D} [h : RO d] : RO (.iface t d) := ⟨h.p⟩
instance : RB (fun _ => none) := ⟨fun _ _ h => by cases h⟩
instance {f : Nat → Option Row} {k : Nat} {cs : List D} [h : RB f] [r : ROs cs] : RB (upd f k (some (.lit cs))) := ⟨fun l row e => by
  by_cases hx : l = k
  · subst hx; rw [upd_same] at e; cases e; exact r.p
  · rw [upd_other _ _ hx] at e; exact h.p l row e⟩
instance {f : Nat → Option Row} {k : Nat} [h : RB f] : RB (upd f k none) := ⟨fun l row e => by
  by_cases hx : l = k
  · subst hx; rw [upd_same] at e; cases e
  · rw [upd_other _ _ hx] at e; exact h.p l row e⟩
instance {hw : Nat → Option Nat} : RV hw (fun _ => none) := ⟨fun _ _ _ _ h => by cases h⟩
instance {hw : Nat → Option Nat} {vw : Nat → Option (Nat → D)} {t : Nat} {f : Nat → D} [h : RV hw vw] [k : ∀ i, DD (f i)] : RV hw (upd vw t (some f)) := ⟨fun t' n q e e' i hi => by
  by_cases hx : t' = t
  · subst hx; rw [upd_same] at e'; cases e'; exact (k i).p
  · rw [upd_other _ _ hx] at e'; exact h.p t' n q e e' i hi⟩
instance {hw : Nat → Option Nat} {vw : Nat → Option (Nat → D)} {t : Nat} [h : RV hw vw] : RV hw (upd vw t none) := ⟨fun t' n q e e' i hi => by
  by_cases hx : t' = t
  · subst hx; rw [upd_same] at e'; cases e'
  · rw [upd_other _ _ hx] at e'; exact h.p t' n q e e' i hi⟩

/-- A contract in a small heap, used in a larger one. -/
theorem fr [Lay] {f : Nat} {args args' : List D} {v : D} {bx : Nat → Option Row} {nl nt : Nat} {hw : Nat → Option Nat} {vw : Nat → Option (Nat → D)} {bx' : Nat → Option Row} {nl' nt' : Nat} {hw' : Nat → Option Nat} {vw' : Nat → Option (Nat → D)} {H : Heap}
    (c : Does PP f args ⟨bx, nl, hw, nt, vw⟩ v ⟨bx', nl', hw', nt', vw'⟩) (bs ts : List Nat) [d1 : Dom bx nl] [d2 : Dom hw nt] [d3 : Dom vw nt] [a1 : ROs args] [a2 : RO v] [a3 : RB bx] [a4 : RV hw vw] [a5 : RB bx'] [a6 : RV hw' vw']
    (k : (decide (bs.Nodup ∧ ts.Nodup ∧ nl ≤ nl' ∧ nt ≤ nt') && bs.all (Nat.blt · H.nl) && ts.all (Nat.blt · H.nt)) = true := by kernel_rfl)
    (m1 : (List.range nl).map (fun l => (bx l).map (renRow (rnm bs H.nl) (rnm ts H.nt))) = bs.map H.box := by kernel_rfl) (m2 : (List.range nt).map hw = ts.map H.hw := by kernel_rfl) (m3 : (List.range nt).map vw = ts.map H.vw := by kernel_rfl)
    (ea : rens (rnm bs H.nl) (rnm ts H.nt) args = args' := by kernel_rfl) :
    Does PP f args' H (ren (rnm bs H.nl) (rnm ts H.nt) v) (frameH bs ts H ⟨bx', nl', hw', nt', vw'⟩) := ea ▸ Does.frame c bs ts k m1 m2 m3

def isLoop : Option Code → Bool
  | some (.loop _) => true
  | _ => false

/-- A loop of fn at p: I: what holds of what turns; S: the slots; μ: the measure; l: the slots that count. -/
theorem lp [Lay] {fn : Func} {cfg : Cfg} {fin : St → Prop} {α : Type} (I : α → Prop) (S : α → St) (μ : α → Nat) (l : List Nat) {p : List Nat} {td : List It} (hs : isLoop (sub (EnC cfg fn).root p) = true) {N : Nat} {sc : α → List Nat → Nat → Option Ans} {lv : List (List Nat × List Nat)}
    (hr : ∀ x, I x → runS (EnC cfg fn) fin (sc x) lv N (.code (p ++ [0]) :: stp l (Nx (EnC cfg fn).nt I S μ (μ x)) :: td) (S x)) (x : α) (hx : I x) : At (EnC cfg fn) fin (.code p :: td) (S x) := by
  have : ∃ c, sub (EnC cfg fn).root p = some (.loop c) := by
    unfold isLoop at hs
    split at hs
    · rename_i c h; exact ⟨c, h⟩
    · cases hs
  obtain ⟨c, hc⟩ := this
  exact at_loopS hmix I S μ l hc hr x hx

end Go.Proofs.YtmlhaikblfjghaaGreatDoor.S1
/- Compaction: the law's types as Lean data; small laws. -/
namespace Go.Proofs.YtmlhaikblfjghaaGreatDoor.S1
open Go Go.Ab Go.Proofs
structure Pol where (full smp stp : Int) deriving Inhabited
def Pol.d (x : Pol) : D := .agg [I x.full, I x.smp, I x.stp]
structure Xt where (sec len sum : Int) deriving Inhabited, DecidableEq
def Xt.d (x : Xt) : D := .agg [I x.sec, I x.len, I x.sum]
structure Ent where (frm to lvl stp : Int) (plc : Xt) deriving Inhabited, DecidableEq
def Ent.d (x : Ent) : D := .agg [I x.frm, I x.to, I x.lvl, I x.stp, I x.plc.sec, I x.plc.len, I x.plc.sum]
structure Dir where (hdr : Xt) (blk : List Ent) deriving Inhabited
def Dir.d (x : Dir) : D := .agg [I x.hdr.sec, I x.hdr.len, I x.hdr.sum, L x.blk 7 Ent.d]
structure Rg where (frm cnt : Int) deriving Inhabited, DecidableEq
def Rg.d (x : Rg) : D := .agg [I x.frm, I x.cnt]
instance {x : Pol} : DD x.d := inferInstanceAs (DD (.agg _))
instance {x : Xt} : DD x.d := inferInstanceAs (DD (.agg _))
instance {x : Ent} : DD x.d := inferInstanceAs (DD (.agg _))
instance {x : Dir} : DD x.d := inferInstanceAs (DD (.agg _))
instance {x : Rg} : DD x.d := inferInstanceAs (DD (.agg _))
theorem sub64 {a b : Int} (h : -9223372036854775808 ≤ a - b) (k : a - b ≤ 9223372036854775807) : subI .i64 a b = a - b := IntWalk.i64_in _ ⟨h, k⟩
theorem add64 {a b : Int} (h : -9223372036854775808 ≤ a + b) (k : a + b ≤ 9223372036854775807) : addI .i64 a b = a + b := IntWalk.i64_in _ ⟨h, k⟩
theorem add1 {i n : Nat} (h : i < n) (k : n ≤ lenM) : addI .i64 (i : Int) 1 = ((i + 1 : Nat) : Int) := by
  unfold lenM at k
  rw [add64 (by omega) (by omega)]; rfl
theorem ltI {i n : Nat} (h : decide ((i : Int) < (n : Int)) = true) : i < n := by simpa using h
theorem geI {i n : Nat} (h : decide ((i : Int) < (n : Int)) = false) : n ≤ i := by simpa using h
theorem take_snoc {α : Type} [Inhabited α] (l : List α) (i : Nat) (h : i < l.length) : l.take (i + 1) = l.take i ++ [l.getD i default] := by
  rw [List.take_succ_eq_append_getElem h]; simp [List.getD, h]
theorem drop_cons {α : Type} [Inhabited α] (l : List α) (i : Nat) (h : i < l.length) : l.drop i = l.getD i default :: l.drop (i + 1) := by
  rw [List.drop_eq_getElem_cons h]; simp [List.getD, h]

abbrev Str := List UInt8
theorem hp_eq {a b : Nat → Option Row} {nl nt : Nat} {hw hw' : Nat → Option Nat} {vw vw' : Nat → Option (Nat → D)} (h1 : ∀ k, a k = b k) (h2 : hw = hw') (h3 : vw = vw') : (⟨a, nl, hw, nt, vw⟩ : Heap) = ⟨b, nl, hw', nt, vw'⟩ := by
  rw [funext h1, h2, h3]

/-- A loop; the round is shown place by place. -/
theorem lpC [Lay] {fn : Func} {cfg : Cfg} {fin : St → Prop} {α : Type} (I : α → Prop) (S : α → St) (μ : α → Nat) (l : List Nat) {p : List Nat} {td : List It} (hs : isLoop (sub (EnC cfg fn).root p) = true)
    (hr : ∀ x, I x → At (EnC cfg fn) fin (.code (p ++ [0]) :: stp l (Nx (EnC cfg fn).nt I S μ (μ x)) :: td) (S x)) (x : α) (hx : I x) : At (EnC cfg fn) fin (.code p :: td) (S x) := by
  have : ∃ c, sub (EnC cfg fn).root p = some (.loop c) := by
    unfold isLoop at hs
    split at hs
    · rename_i c h; exact ⟨c, h⟩
    · cases hs
  obtain ⟨c, hc⟩ := this
  exact at_loopK I S μ l hc hr x hx
end Go.Proofs.YtmlhaikblfjghaaGreatDoor.S1
/- Seat 1: small functions. -/
namespace Go.Proofs.YtmlhaikblfjghaaGreatDoor.S1
open Go Go.Ab Go.Proofs

def sect (n : Int) : Int := bif decide (n < 1) then 0 else addI .i64 (quoI .i64 (subI .i64 n 1) 64) 1
theorem F51 : OkF 51 Tryz.f51 := ⟨by kernel_rfl, by kernel_rfl, by kernel_rfl⟩
def lv51 : List (List Nat × List Nat) := []
noncomputable def n57s  : List Nat → Nat → Option Ans := scrAt []
theorem n57 [Lay] (n : Int) (K : D → Prop) : runS (En Tryz.f51) (fi Tryz.f51 K) (n57s ) lv51 200 [.code []] ⟨argSlots 0 [I n], .empty⟩ =
  (bif decide (n < 1) then K (I 0) else (64 : Int) ≠ 0 ∧ K (I (addI .i64 (quoI .i64 (subI .i64 n 1) 64) 1))) := by kernel_rfl
theorem c51 [Lay] (n : Int) : Pure PP 51 [I n] (I (sect n)) := pu F51 (by kernel_rfl) (of_eq (n57 n _) (wkI (fun h => h) (fun h => ⟨by decide, h⟩) (Wk.refl _)))
def fits (x : Xt) : Bool := bif bif bif bif bif bif decide (x.len ≥ 1) then decide (x.len ≤ 16384) else false then decide (x.sum ≥ 0) else false then decide (x.sum < 4294967296) else false then decide (x.sec ≥ 4) else false then decide (x.sec < 1024) else false then decide (sect x.len ≤ subI .i64 1024 x.sec) else false
theorem F39 : OkF 39 Tryz.f39 := ⟨by kernel_rfl, by kernel_rfl, by kernel_rfl⟩
def lv39 : List (List Nat × List Nat) := []
noncomputable def n43s (x : Xt) : List Nat → Nat → Option Ans := scrAt [([1, 0], 31, Ans.pure [I x.len] (I (sect x.len)))]
theorem n43 [Lay] (x : Xt) (K : D → Prop) : runS (En Tryz.f39) (fi Tryz.f39 K) (n43s x) lv39 200 [.code []] ⟨argSlots 0 [x.d], .empty⟩ =
  (((bif bif bif bif bif decide (x.len ≥ 1) then decide (x.len ≤ 16384) else false then decide (x.sum ≥ 0) else false then decide (x.sum < 4294967296) else false then decide (x.sec ≥ 4) else false then decide (x.sec < 1024) else false) = true → PureW PP 51 [I x.len] [I x.len] (I (sect x.len))) ∧ K (B (bif bif bif bif bif bif decide (x.len ≥ 1) then decide (x.len ≤ 16384) else false then decide (x.sum ≥ 0) else false then decide (x.sum < 4294967296) else false then decide (x.sec ≥ 4) else false then decide (x.sec < 1024) else false then decide (sect x.len ≤ subI .i64 1024 x.sec) else false))) := by kernel_rfl
theorem c39 [Lay] (x : Xt) : Pure PP 39 [x.d] (B (fits x)) := pu F39 (by kernel_rfl) (of_eq (n43 x _) ⟨fun _ => PureW.mk (c51 _), Wk.refl _⟩)

def regOf (x : Xt) : Rg := ⟨x.sec, sect x.len⟩
theorem F53 : OkF 53 Tryz.f53 := ⟨by kernel_rfl, by kernel_rfl, by kernel_rfl⟩
def lv53 : List (List Nat × List Nat) := []
noncomputable def n59s (x : Xt) : List Nat → Nat → Option Ans := scrAt [([1, 0], 4, Ans.pure [I x.len] (I (sect x.len)))]
theorem n59 [Lay] (x : Xt) (K : D → Prop) : runS (En Tryz.f53) (fi Tryz.f53 K) (n59s x) lv53 200 [.code []] ⟨argSlots 0 [x.d], .empty⟩ =
  (PureW PP 51 [I x.len] [I x.len] (I (sect x.len)) ∧ True ∧ K (.agg [I x.sec, I (sect x.len)])) := by kernel_rfl
theorem c53 [Lay] (x : Xt) : Pure PP 53 [x.d] (regOf x).d := pu F53 (by kernel_rfl) (of_eq (n59 x _) ⟨PureW.mk (c51 _), trivial, Wk.refl _⟩)

end Go.Proofs.YtmlhaikblfjghaaGreatDoor.S1
/- Seat 1: the regions of a directory. -/
namespace Go.Proofs.YtmlhaikblfjghaaGreatDoor.S1
open Go Go.Ab Go.Proofs

def regs (d : Dir) : List Rg := regOf d.hdr :: d.blk.map fun e => regOf e.plc
theorem F41 : OkF 41 Tryz.f41 := ⟨by kernel_rfl, by kernel_rfl, by kernel_rfl⟩
def lv41 : List (List Nat × List Nat) := [([1, 1, 0, 1, 0], [3, 11, 12, 13])]
noncomputable def n45s (d : Dir) : List Nat → Nat → Option Ans := scrAt [([1, 0], 2, Ans.pure [d.hdr.d] (regOf d.hdr).d)]
theorem n45 [Lay] (d : Dir) (K : D → Heap → Prop) : runS (En Tryz.f41) (fh Tryz.f41 K) (n45s d) lv41 200 [.code []] ⟨argSlots 0 [d.d], .empty⟩ =
  (PureW PP 53 [d.hdr.d] [d.hdr.d] (regOf d.hdr).d ∧ (d.blk.length ≤ lenM → At (En Tryz.f41) (fh Tryz.f41 K) [It.code [1, 1, 0, 1, 0], It.blk 0, It.code [1, 1, 1]] { sl := [(3, .list 1 2 (litG [.agg [I (regOf d.hdr).frm, I (regOf d.hdr).cnt]]) .full), (11, L d.blk 7 Ent.d), (12, I (↑d.blk.length : Int)), (13, I 0)], h := Heap.empty : St })) := by kernel_rfl
def S45 (d : Dir) (i : Int) (out : List Rg) : St := ⟨[(3, LT out 2 Rg.d 0), (11, L d.blk 7 Ent.d), (12, I d.blk.length), (13, I i)], hT .empty out.length⟩
noncomputable def n45as (d : Dir) (i : Int) : List Nat → Nat → Option Ans := scrAt [([1, 1, 0, 1, 0, 0, 1, 1, 0, 0, 1], 3, Ans.pure [(d.blk.getD i.toNat default).plc.d] (regOf (d.blk.getD i.toNat default).plc).d)]
theorem n45a [Lay] (d : Dir) (i : Int) (out : List Rg) (J : St → Prop) (K : D → Heap → Prop) : runS (En Tryz.f41) (fh Tryz.f41 K) (n45as d i) lv41 200 [.code [1, 1, 0, 1, 0, 0], stp [3, 11, 12, 13] J, .blk 0, .code [1, 1, 1]] (S45 d i out) =
  (bif decide (i < (↑d.blk.length : Int)) then (0 ≤ i ∧ i < (↑d.blk.length : Int)) ∧ True ∧ PureW PP 53 [(d.blk.getD i.toNat default).plc.d] [(d.blk.getD i.toNat default).plc.d] (regOf (d.blk.getD i.toNat default).plc).d ∧ (upd (fun _ => none) 0 (some out.length) 0 = some out.length ∧ (out.length + 1) * 16 ≤ roomM) ∧ J { sl := [(3, .list (out.length + 1) 2 (catG out.length (fun i => (out.getD i default).d) (litG [.agg [I (regOf (d.blk.getD i.toNat default).plc).frm, I (regOf (d.blk.getD i.toNat default).plc).cnt]])) (.tok 0 2)), (11, L d.blk 7 Ent.d), (12, I (↑d.blk.length : Int)), (13, I (addI .i64 i 1))], h := { box := fun _ => none, nl := 0, hw := upd (upd (fun _ => none) 0 (some out.length)) 0 (some (out.length + 1)), nt := 1, vw := fun _ => none : Heap } : St } else K (.list out.length 2 (fun i => (out.getD i default).d) (.tok 0 2)) { box := fun _ => none, nl := 0, hw := upd (fun _ => none) 0 (some out.length), nt := 1, vw := fun _ => none : Heap }) := by kernel_rfl
theorem regs_snoc (d : Dir) (i : Nat) (h : i < d.blk.length) : regs ⟨d.hdr, d.blk.take (i + 1)⟩ = regs ⟨d.hdr, d.blk.take i⟩ ++ [regOf (d.blk.getD i default).plc] := by
  simp [regs, take_snoc _ _ h]
theorem e41 [Lay] (d : Dir) (hm : d.blk.length ≤ 1000000) : Does PP 41 [d.d] .empty (LT (regs d) 2 Rg.d 0) (hT .empty (regs d).length) := by
  refine du F41 (by kernel_rfl) (of_eq (n45 d _) ⟨PureW.mk (c53 _), fun hl => ?_⟩)
  refine at_le ?_ (StLe.tok1 _ (x := regOf d.hdr) (enc := Rg.d) 3 rfl)
  refine lp (fn := Tryz.f41) (fun i : Nat => i ≤ d.blk.length) (fun i => S45 d i (regs ⟨d.hdr, d.blk.take i⟩)) (fun i => d.blk.length - i) [3, 11, 12, 13] (by kernel_rfl) (fun i hi => of_eq (n45a d i _ _ _) (cond_intro (fun hlt => ?_) fun hge => ?_)) 0 (Nat.zero_le _)
  · have hlt := ltI hlt
    rw [add1 hlt hl, Int.toNat_natCast]
    refine ⟨⟨by omega, by omega⟩, trivial, PureW.mk (c53 _), ⟨upd_same _ _ _, ?_⟩, Nx.of (i + 1) (by omega) (by omega) ?_⟩
    · simp [regs, roomM]; omega
    · unfold S45
      rw [regs_snoc d i hlt]
      exact (StLe.set 3 rfl Wk.snoc rfl rfl).trans (StLe.heap (by simp [hT, upd_upd, Heap.empty]))
  · have := geI hge
    have hd : regs ⟨d.hdr, d.blk.take i⟩ = regs d := by rw [List.take_of_length_le this]
    rw [hd]
    exact RetLe.refl _ _
end Go.Proofs.YtmlhaikblfjghaaGreatDoor.S1
/- Seat 1: the reference's marks. -/
namespace Go.Proofs.YtmlhaikblfjghaaGreatDoor.S1
open Go Go.Ab Go.Proofs

def hit (x : Rg) (k : Int) : Prop := x.frm ≤ k ∧ k < x.frm + x.cnt
instance {x : Rg} {k : Int} : Decidable (hit x k) := inferInstanceAs (Decidable (_ ∧ _))
def apart (x y : Rg) : Prop := ∀ k, ¬ (hit x k ∧ hit y k)
theorem getD_mem {α : Type} [Inhabited α] {l : List α} {i : Nat} (h : i < l.length) : l.getD i default ∈ l := by
  rw [getD_list h]; exact List.getElem_mem h
end Go.Proofs.YtmlhaikblfjghaaGreatDoor.S1
/- Seat 1: the reference's directories. -/
namespace Go.Proofs.YtmlhaikblfjghaaGreatDoor.S1
open Go Go.Ab Go.Proofs

end Go.Proofs.YtmlhaikblfjghaaGreatDoor.S1
