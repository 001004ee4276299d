/- Seat 1: the laws' types as Lean data; words for contracts. -/
import Derived.Test.YtmlhaikblfjghaaB6
import Derived.Test.YtmlhaikblfjghaaChecked
import Derived.Shelf.SlSortCmp.WholeK
import Derived.Shelf.SlicesG.Cmp
namespace Go.Proofs.Ytmlhaikblfjghaa.S1
open Go Go.Ab Go.Proofs Go.Proofs.Ytmlhaikblfjghaa

def cfg0 : Cfg := ⟨fun _ => false, fun _ => false⟩
noncomputable abbrev PP : Program := Try.prog
noncomputable abbrev EnC (c : Cfg) (f : Func) : Env := ⟨Try.prog, c, f.body.getD .skip, f.ntmps⟩
noncomputable abbrev En (f : Func) : Env := EnC cfg0 f
def cfgX (l : List Nat) : Cfg := ⟨fun d => l.any (Nat.beq d), fun _ => false⟩
def cfgV (l v : List Nat) : Cfg := ⟨fun d => l.any (Nat.beq d), fun d => v.any (Nat.beq d)⟩
/-- A function some of whose boxes lie in the heap. -/
noncomputable abbrev EnX (l : List Nat) (f : Func) : Env := EnC (cfgX l) f
/-- And some of whose slices are arrays of its own. -/
noncomputable abbrev EnV (l v : List Nat) (f : Func) : Env := EnC (cfgV l v) f
noncomputable abbrev fi (f : Func) (K : D → Prop) : St → Prop := finK Try.prog f.results.toList fun d _ => K d
noncomputable abbrev fh (f : Func) (K : D → Heap → Prop) : St → Prop := finK Try.prog f.results.toList K
def nolv : List (List Nat × List Nat) := []
abbrev stp (l : List Nat) (J : St → Prop) : It := .stop fun st => J (keepSt l st)

theorem hmix : Try.prog.follows .mixedOrders = true := by kernel_rfl

class DD (d : D) : Prop where
  p : Ab.Data d
class DS (ds : List D) : Prop where
  p : Datas ds
instance : DS [] := ⟨trivial⟩
instance {d : D} {ds : List D} [h : DD d] [k : DS ds] : DS (d :: ds) := ⟨h.p, k.p⟩
instance {n : Int} {k : IntKind} : DD (.int k n) := ⟨trivial⟩
instance {b : Bool} : DD (.bool b) := ⟨trivial⟩
instance {s : List UInt8} : DD (.str s) := ⟨trivial⟩
instance {ds : List D} [h : DS ds] : DD (.agg ds) := ⟨h.p⟩
instance {ds : List D} [h : DS ds] : DD (.tup ds) := ⟨h.p⟩
instance {f : Nat} {ds : List D} [h : DS ds] : DD (.clo f ds) := ⟨h.p⟩
instance {α : Type} [Inhabited α] {es : List α} {sz : Nat} {enc : α → D} [h : ∀ x, DD (enc x)] : DD (L es sz enc) := ⟨L.data fun x => (h x).p⟩

structure Pol where (full smp stp : Int) deriving Inhabited
def Pol.d (x : Pol) : D := .agg [I x.full, I x.smp, I x.stp]
structure Xt where (sec len sum : Int) deriving Inhabited, DecidableEq
def Xt.d (x : Xt) : D := .agg [I x.sec, I x.len, I x.sum]
structure Ent where (frm to lvl stp : Int) (plc : Xt) deriving Inhabited, DecidableEq
def Ent.d (x : Ent) : D := .agg [I x.frm, I x.to, I x.lvl, I x.stp, I x.plc.sec, I x.plc.len, I x.plc.sum]
structure Dir where (hdr : Xt) (blk : List Ent) deriving Inhabited
def Dir.d (x : Dir) : D := .agg [I x.hdr.sec, I x.hdr.len, I x.hdr.sum, L x.blk 7 Ent.d]
structure Rg where (frm cnt : Int) deriving Inhabited, DecidableEq
def Rg.d (x : Rg) : D := .agg [I x.frm, I x.cnt]
instance {x : Pol} : DD x.d := inferInstanceAs (DD (.agg _))
instance {x : Xt} : DD x.d := inferInstanceAs (DD (.agg _))
instance {x : Ent} : DD x.d := inferInstanceAs (DD (.agg _))
instance {x : Dir} : DD x.d := inferInstanceAs (DD (.agg _))
instance {x : Rg} : DD x.d := inferInstanceAs (DD (.agg _))

/-- Function f of the program, whole. -/
structure OkF (f : Nat) (fn : Func) : Prop where
  hf : PP.funcs[f]? = some fn
  hb : fn.body = some (fn.body.getD .skip)
  hn : (fn.name == "runtime.NumGoroutine") = false

theorem pu {f : Nat} {fn : Func} (o : OkF f fn) {args : List D} {v : D} [da : DS args] [dv : DD v] (hn : Nat.ble args.length fn.ntmps = true) {cfg : Cfg} {sc : List Nat → Nat → Option Ans} {lv : List (List Nat × List Nat)} {N : Nat}
    (hr : runS (EnC cfg fn) (fi fn fun d => Wk d v) sc lv N [.code []] ⟨argSlots 0 args, .empty⟩) : Pure PP f args v := pure_of_runS hmix o.hf o.hb o.hn da.p dv.p hn hr

theorem du {f : Nat} {fn : Func} (o : OkF f fn) {args : List D} {v : D} {h h' : Heap} (hn : Nat.ble args.length fn.ntmps = true) {cfg : Cfg} {sc : List Nat → Nat → Option Ans} {lv : List (List Nat × List Nat)} {N : Nat}
    (hr : runS (EnC cfg fn) (fh fn fun d h'' => RetLe d h'' v h') sc lv N [.code []] ⟨argSlots 0 args, h⟩) : Does PP f args h v h' := Does.of_call (callA_of_runS hmix o.hf o.hb o.hn hn hr)

theorem pr {f : Nat} {fn : Func} (o : OkF f fn) {args : List D} {v : D} [da : DS args] [dv : DD v] (hn : Nat.ble args.length fn.ntmps = true) {cfg : Cfg} {sc : List Nat → Nat → Option Ans} {lv : List (List Nat × List Nat)} {N : Nat}
    (hr : runS (EnC cfg fn) (fh fn fun d h => ∃ h', RetLe d h v h') sc lv N [.code []] ⟨argSlots 0 args, .empty⟩) : Pure PP f args v := pure_of_runR hmix o.hf o.hb o.hn da.p dv.p hn hr

mutual
theorem renOk_data : ∀ d : D, Ab.Data d → RenOk d
  | .bool _, _ | .int _ _, _ | .str _, _ | .nilp, _ | .nilf, _ | .nili, _ | .nilm, _ => trivial
  | .bp _ _, _ | .sl _ _ _, _ | .mp _, _ | .vec _ _ _, _ | .be _ _ _ _ _, _ | .own _, _ | .lp _ _, _ | .may _ _ _, _ | .junk, _ => trivial
  | .list _ _ _ _, h => by simp only [Ab.Data] at h; simp only [RenOk]; exact h.1
  | .agg cs, h => by simp only [Ab.Data] at h; simp only [RenOk]; exact renOks_data cs h
  | .tup cs, h => by simp only [Ab.Data] at h; simp only [RenOk]; exact renOks_data cs h
  | .clo _ cs, h => by simp only [Ab.Data] at h; simp only [RenOk]; exact renOks_data cs h
  | .ep cs, h => by simp only [Ab.Data] at h; simp only [RenOk]; exact renOks_data cs h
  | .iface _ d, h => by simp only [Ab.Data] at h; simp only [RenOk]; exact renOk_data d h
theorem renOks_data : ∀ ds : List D, Datas ds → RenOks ds
  | [], _ => trivial
  | d :: r, h => by simp only [Datas] at h; simp only [RenOks]; exact ⟨renOk_data d h.1, renOks_data r h.2⟩
end
instance (priority := 10) {d : D} [h : DD d] : RO d := ⟨renOk_data d h.p⟩
instance {l o : Nat} : RO (.bp l o) := ⟨trivial⟩
instance {l : Nat} : RO (.mp l) := ⟨trivial⟩
instance {t n sz : Nat} : RO (.vec t n sz) := ⟨trivial⟩
instance {t n i sz j : Nat} : RO (.be t n i sz j) := ⟨trivial⟩
instance {n sz : Nat} {get : Nat → D} {own : Own} [h : ∀ i, DD (get i)] : RO (.list n sz get own) := ⟨fun i _ => (h i).p⟩
instance {α : Type} [Inhabited α] {es : List α} {sz t : Nat} {enc : α → D} [h : ∀ x, DD (enc x)] : RO (LT es sz enc t) := ⟨fun _ _ => (h _).p⟩
instance {α : Type} [Inhabited α] {es : List α} {enc : α → D} [h : ∀ x, DD (enc x)] {i : Nat} : DD (cv es enc i) := ⟨(h _).p⟩
instance : ROs [] := ⟨trivial⟩
instance {d : D} {ds : List D} [h : RO d] [k : ROs ds] : ROs (d :: ds) := ⟨h.p, k.p⟩
instance {ds : List D} [h : ROs ds] : RO (.agg ds) := ⟨h.p⟩
instance {ds : List D} [h : ROs ds] : RO (.tup ds) := ⟨h.p⟩
instance {f : Nat} {ds : List D} [h : ROs ds] : RO (.clo f ds) := ⟨h.p⟩
instance {t : Nat} {d : D} [h : RO d] : RO (.iface t d) := ⟨h.p⟩
instance : RB (fun _ => none) := ⟨fun _ _ h => by cases h⟩
instance {f : Nat → Option Row} {k : Nat} {cs : List D} [h : RB f] [r : ROs cs] : RB (upd f k (some (.lit cs))) := ⟨fun l row e => by
  by_cases hx : l = k
  · subst hx; rw [upd_same] at e; cases e; exact r.p
  · rw [upd_other _ _ hx] at e; exact h.p l row e⟩
instance {f : Nat → Option Row} {k : Nat} [h : RB f] : RB (upd f k none) := ⟨fun l row e => by
  by_cases hx : l = k
  · subst hx; rw [upd_same] at e; cases e
  · rw [upd_other _ _ hx] at e; exact h.p l row e⟩
instance {hw : Nat → Option Nat} : RV hw (fun _ => none) := ⟨fun _ _ _ _ h => by cases h⟩
instance {hw : Nat → Option Nat} {vw : Nat → Option (Nat → D)} {t : Nat} {f : Nat → D} [h : RV hw vw] [k : ∀ i, DD (f i)] : RV hw (upd vw t (some f)) := ⟨fun t' n q e e' i hi => by
  by_cases hx : t' = t
  · subst hx; rw [upd_same] at e'; cases e'; exact (k i).p
  · rw [upd_other _ _ hx] at e'; exact h.p t' n q e e' i hi⟩
instance {hw : Nat → Option Nat} {vw : Nat → Option (Nat → D)} {t : Nat} [h : RV hw vw] : RV hw (upd vw t none) := ⟨fun t' n q e e' i hi => by
  by_cases hx : t' = t
  · subst hx; rw [upd_same] at e'; cases e'
  · rw [upd_other _ _ hx] at e'; exact h.p t' n q e e' i hi⟩

/-- A contract in a small heap, used in a larger one. -/
theorem fr {f : Nat} {args args' : List D} {v : D} {bx : Nat → Option Row} {nl nt : Nat} {hw : Nat → Option Nat} {vw : Nat → Option (Nat → D)} {bx' : Nat → Option Row} {nl' nt' : Nat} {hw' : Nat → Option Nat} {vw' : Nat → Option (Nat → D)} {H : Heap}
    (c : Does PP f args ⟨bx, nl, hw, nt, vw⟩ v ⟨bx', nl', hw', nt', vw'⟩) (bs ts : List Nat) [d1 : Dom bx nl] [d2 : Dom hw nt] [d3 : Dom vw nt] [a1 : ROs args] [a2 : RO v] [a3 : RB bx] [a4 : RV hw vw] [a5 : RB bx'] [a6 : RV hw' vw']
    (k : (decide (bs.Nodup ∧ ts.Nodup ∧ nl ≤ nl' ∧ nt ≤ nt') && bs.all (Nat.blt · H.nl) && ts.all (Nat.blt · H.nt)) = true := by kernel_rfl)
    (m1 : (List.range nl).map (fun l => (bx l).map (renRow (rnm bs H.nl) (rnm ts H.nt))) = bs.map H.box := by kernel_rfl) (m2 : (List.range nt).map hw = ts.map H.hw := by kernel_rfl) (m3 : (List.range nt).map vw = ts.map H.vw := by kernel_rfl)
    (ea : rens (rnm bs H.nl) (rnm ts H.nt) args = args' := by kernel_rfl) :
    Does PP f args' H (ren (rnm bs H.nl) (rnm ts H.nt) v) (frameH bs ts H ⟨bx', nl', hw', nt', vw'⟩) := ea ▸ Does.frame c bs ts k m1 m2 m3

def isLoop : Option Code → Bool
  | some (.loop _) => true
  | _ => false

/-- A loop of fn at p: I: what holds of what turns; S: the slots; μ: the measure; l: the slots that count. -/
theorem lp {fn : Func} {cfg : Cfg} {fin : St → Prop} {α : Type} (I : α → Prop) (S : α → St) (μ : α → Nat) (l : List Nat) {p : List Nat} {td : List It} (hs : isLoop (sub (EnC cfg fn).root p) = true) {N : Nat} {sc : α → List Nat → Nat → Option Ans} {lv : List (List Nat × List Nat)}
    (hr : ∀ x, I x → runS (EnC cfg fn) fin (sc x) lv N (.code (p ++ [0]) :: stp l (Nx (EnC cfg fn).nt I S μ (μ x)) :: td) (S x)) (x : α) (hx : I x) : At (EnC cfg fn) fin (.code p :: td) (S x) := by
  have : ∃ c, sub (EnC cfg fn).root p = some (.loop c) := by
    unfold isLoop at hs
    split at hs
    · rename_i c h; exact ⟨c, h⟩
    · cases hs
  obtain ⟨c, hc⟩ := this
  exact at_loopS hmix I S μ l hc hr x hx

end Go.Proofs.Ytmlhaikblfjghaa.S1
/- Seat 1: small functions. -/
namespace Go.Proofs.Ytmlhaikblfjghaa.S1
open Go Go.Ab Go.Proofs

def sect (n : Int) : Int := bif decide (n < 1) then 0 else addI .i64 (quoI .i64 (subI .i64 n 1) 64) 1
theorem F57 : OkF 57 Try.f57 := ⟨by kernel_rfl, by kernel_rfl, by kernel_rfl⟩
def lv57 : List (List Nat × List Nat) := []
noncomputable def n57s  : List Nat → Nat → Option Ans := scrAt []
theorem n57 (n : Int) (K : D → Prop) : runS (En Try.f57) (fi Try.f57 K) (n57s ) lv57 200 [.code []] ⟨argSlots 0 [I n], .empty⟩ =
  (bif decide (n < 1) then K (I 0) else (64 : Int) ≠ 0 ∧ K (I (addI .i64 (quoI .i64 (subI .i64 n 1) 64) 1))) := by kernel_rfl
theorem c57 (n : Int) : Pure PP 57 [I n] (I (sect n)) := pu F57 (by kernel_rfl) (of_eq (n57 n _) (wkI (fun h => h) (fun h => ⟨by decide, h⟩) (Wk.refl _)))
theorem F66 : OkF 66 Try.f66 := ⟨by kernel_rfl, by kernel_rfl, by kernel_rfl⟩
def lv66 : List (List Nat × List Nat) := []
noncomputable def n66s  : List Nat → Nat → Option Ans := scrAt []
theorem n66 (n : Int) (K : D → Prop) : runS (En Try.f66) (fi Try.f66 K) (n66s ) lv66 200 [.code []] ⟨argSlots 0 [I n], .empty⟩ =
  (bif decide (n < 1) then K (I 0) else (64 : Int) ≠ 0 ∧ K (I (addI .i64 (quoI .i64 (subI .i64 n 1) 64) 1))) := by kernel_rfl
theorem c66 (n : Int) : Pure PP 66 [I n] (I (sect n)) := pu F66 (by kernel_rfl) (of_eq (n66 n _) (wkI (fun h => h) (fun h => ⟨by decide, h⟩) (Wk.refl _)))

def polOk (p : Pol) : Bool :=
  bif (bif (bif (bif bif decide (p.full < 0) then true else decide (p.full > 1099511627776) then true else decide (p.smp < 0)) then true else decide (p.smp > 1099511627776)) then true
    else bif bif p.full != 0 then p.smp != 0 else false then decide (p.full ≥ p.smp) else false) then false
  else bif p.full == 0 then p.stp == 0 else bif decide (p.stp ≥ 1) then decide (p.stp ≤ 1099511627776) else false
theorem F11 : OkF 11 Try.f11 := ⟨by kernel_rfl, by kernel_rfl, by kernel_rfl⟩
def lv11 : List (List Nat × List Nat) := []
noncomputable def n11s  : List Nat → Nat → Option Ans := scrAt []
theorem n11 (p : Pol) (K : D → Prop) : runS (En Try.f11) (fi Try.f11 K) (n11s ) lv11 200 [.code []] ⟨argSlots 0 [p.d], .empty⟩ =
  (bif bif bif bif bif decide (p.full < 0) then true else decide (p.full > 1099511627776) then true else decide (p.smp < 0) then true else decide (p.smp > 1099511627776) then true else bif bif p.full != 0 then p.smp != 0 else false then decide (p.full ≥ p.smp) else false then K (B false) else bif p.full == 0 then K (B (p.stp == 0)) else K (B (bif decide (p.stp ≥ 1) then decide (p.stp ≤ 1099511627776) else false))) := by kernel_rfl
theorem c11 (p : Pol) : Pure PP 11 [p.d] (B (polOk p)) := pu F11 (by kernel_rfl) (of_eq (n11 p _) (wkB (fun h => h) (wkB (fun h => h) fun h => h) (Wk.refl _)))

def polOkR (p : Pol) : Bool :=
  bif (bif bif bif decide (p.full < 0) then true else decide (p.full > 1099511627776) then true else decide (p.smp < 0) then true else decide (p.smp > 1099511627776)) then false
  else bif p.full == 0 then p.stp == 0 else bif bif decide (p.stp ≥ 1) then decide (p.stp ≤ 1099511627776) else false then bif p.smp == 0 then true else decide (p.full < p.smp) else false
theorem F12 : OkF 12 Try.f12 := ⟨by kernel_rfl, by kernel_rfl, by kernel_rfl⟩
def lv12 : List (List Nat × List Nat) := []
noncomputable def n12s  : List Nat → Nat → Option Ans := scrAt []
theorem n12 (p : Pol) (K : D → Prop) : runS (En Try.f12) (fi Try.f12 K) (n12s ) lv12 200 [.code []] ⟨argSlots 0 [p.d], .empty⟩ =
  (bif bif bif bif decide (p.full < 0) then true else decide (p.full > 1099511627776) then true else decide (p.smp < 0) then true else decide (p.smp > 1099511627776) then K (B false) else bif p.full == 0 then K (B (p.stp == 0)) else K (B (bif bif decide (p.stp ≥ 1) then decide (p.stp ≤ 1099511627776) else false then bif p.smp == 0 then true else decide (p.full < p.smp) else false))) := by kernel_rfl
theorem polOkR_eq (p : Pol) : polOkR p = polOk p := by
  rw [Bool.eq_iff_iff]
  by_cases h : p.full = 0 <;> simp [polOkR, polOk, h] <;> omega
theorem c12 (p : Pol) : Pure PP 12 [p.d] (B (polOk p)) := by
  rw [← polOkR_eq]
  exact pu F12 (by kernel_rfl) (of_eq (n12 p _) (wkB (fun h => h) (wkB (fun h => h) fun h => h) (Wk.refl _)))

def fits (x : Xt) : Bool := bif bif bif bif bif bif decide (x.len ≥ 1) then decide (x.len ≤ 16384) else false then decide (x.sum ≥ 0) else false then decide (x.sum < 4294967296) else false then decide (x.sec ≥ 4) else false then decide (x.sec < 1024) else false then decide (sect x.len ≤ subI .i64 1024 x.sec) else false
theorem F43 : OkF 43 Try.f43 := ⟨by kernel_rfl, by kernel_rfl, by kernel_rfl⟩
def lv43 : List (List Nat × List Nat) := []
noncomputable def n43s (x : Xt) : List Nat → Nat → Option Ans := scrAt [([1, 0], 31, Ans.pure [I x.len] (I (sect x.len)))]
theorem n43 (x : Xt) (K : D → Prop) : runS (En Try.f43) (fi Try.f43 K) (n43s x) lv43 200 [.code []] ⟨argSlots 0 [x.d], .empty⟩ =
  (((bif bif bif bif bif decide (x.len ≥ 1) then decide (x.len ≤ 16384) else false then decide (x.sum ≥ 0) else false then decide (x.sum < 4294967296) else false then decide (x.sec ≥ 4) else false then decide (x.sec < 1024) else false) = true → PureW PP 57 [I x.len] [I x.len] (I (sect x.len))) ∧ K (B (bif bif bif bif bif bif decide (x.len ≥ 1) then decide (x.len ≤ 16384) else false then decide (x.sum ≥ 0) else false then decide (x.sum < 4294967296) else false then decide (x.sec ≥ 4) else false then decide (x.sec < 1024) else false then decide (sect x.len ≤ subI .i64 1024 x.sec) else false))) := by kernel_rfl
theorem c43 (x : Xt) : Pure PP 43 [x.d] (B (fits x)) := pu F43 (by kernel_rfl) (of_eq (n43 x _) ⟨fun _ => PureW.mk (c57 _), Wk.refl _⟩)

def regOf (x : Xt) : Rg := ⟨x.sec, sect x.len⟩
theorem F59 : OkF 59 Try.f59 := ⟨by kernel_rfl, by kernel_rfl, by kernel_rfl⟩
def lv59 : List (List Nat × List Nat) := []
noncomputable def n59s (x : Xt) : List Nat → Nat → Option Ans := scrAt [([1, 0], 4, Ans.pure [I x.len] (I (sect x.len)))]
theorem n59 (x : Xt) (K : D → Prop) : runS (En Try.f59) (fi Try.f59 K) (n59s x) lv59 200 [.code []] ⟨argSlots 0 [x.d], .empty⟩ =
  (PureW PP 57 [I x.len] [I x.len] (I (sect x.len)) ∧ True ∧ K (.agg [I x.sec, I (sect x.len)])) := by kernel_rfl
theorem c59 (x : Xt) : Pure PP 59 [x.d] (regOf x).d := pu F59 (by kernel_rfl) (of_eq (n59 x _) ⟨PureW.mk (c57 _), trivial, Wk.refl _⟩)

def fitsR (x : Xt) : Rg × Bool :=
  bif bif bif bif bif bif decide (x.len < 1) then true else decide (x.len > 16384) then true else decide (x.sum < 0) then true else decide (x.sum ≥ 4294967296) then true else decide (x.sec < 4) then true else decide (x.sec > 1024) then (⟨0, 0⟩, false)
  else (regOf x, decide (addI .i64 x.sec (sect x.len) ≤ 1024))
theorem F60 : OkF 60 Try.f60 := ⟨by kernel_rfl, by kernel_rfl, by kernel_rfl⟩
def lv60 : List (List Nat × List Nat) := []
noncomputable def n60s (x : Xt) : List Nat → Nat → Option Ans := scrAt [([1, 1, 0], 2, Ans.pure [I x.len] (I (sect x.len)))]
theorem n60 (x : Xt) (K : D → Prop) : runS (En Try.f60) (fi Try.f60 K) (n60s x) lv60 200 [.code []] ⟨argSlots 0 [x.d], .empty⟩ =
  (bif bif bif bif bif bif decide (x.len < 1) then true else decide (x.len > 16384) then true else decide (x.sum < 0) then true else decide (x.sum ≥ 4294967296) then true else decide (x.sec < 4) then true else decide (x.sec > 1024) then True ∧ K (.tup [.agg [I 0, I 0], B false]) else PureW PP 66 [I x.len] [I x.len] (I (sect x.len)) ∧ True ∧ K (.tup [.agg [I x.sec, I (sect x.len)], B (decide (addI .i64 x.sec (sect x.len) ≤ 1024))])) := by kernel_rfl
theorem c60 (x : Xt) : Pure PP 60 [x.d] (.tup [(fitsR x).1.d, B (fitsR x).2]) := pu F60 (by kernel_rfl) (of_eq (n60 x _) (cond_intro (fun h => ⟨trivial, by simp only [fitsR, h, cond_true, Rg.d, Wk.refl]⟩) (fun h => ⟨PureW.mk (c66 _), trivial, by simp only [fitsR, h, cond_false, regOf, Rg.d, Wk.refl]⟩)))

def level (p : Pol) (e : Ent) (n : Int) : Int × Int :=
  bif bif bif bif bif !polOk p then true else decide (n < -1) then true else decide (n > 1099511627776) then true else decide (e.to < -1) then true else decide (e.to > 1099511627776) then (0, 0)
  else bif bif p.smp != 0 then decide (subI .i64 n e.to > p.smp) else false then (2, 0)
  else bif bif p.full != 0 then decide (subI .i64 n e.to > p.full) else false then (1, p.stp) else (0, 0)
def levelR (p : Pol) (e : Ent) (n : Int) : Int × Int :=
  bif bif bif bif bif !polOk p then true else decide (n < -1) then true else decide (n > 1099511627776) then true else decide (e.to < -1) then true else decide (e.to > 1099511627776) then (0, 0)
  else bif bif decide (p.smp > 0) then decide (subI .i64 n e.to > p.smp) else false then (2, 0)
  else bif bif decide (p.full > 0) then decide (subI .i64 n e.to > p.full) else false then (1, p.stp) else (0, 0)
theorem levelR_eq (p : Pol) (e : Ent) (n : Int) : levelR p e n = level p e n := by
  unfold level levelR
  cases h : polOk p with
  | false => rfl
  | true =>
    have h1 : 0 ≤ p.full ∧ 0 ≤ p.smp := by
      unfold polOk at h
      simp at h
      omega
    have h2 : decide (p.smp > 0) = (p.smp != 0) := by rw [Bool.eq_iff_iff]; simp; omega
    have h3 : decide (p.full > 0) = (p.full != 0) := by rw [Bool.eq_iff_iff]; simp; omega
    rw [h2, h3]
theorem F9 : OkF 9 Try.f9 := ⟨by kernel_rfl, by kernel_rfl, by kernel_rfl⟩
def lv9 : List (List Nat × List Nat) := []
noncomputable def n9s (p : Pol) : List Nat → Nat → Option Ans := scrAt [([1, 0, 0], 1, Ans.pure [p.d] (B (polOk p)))]
theorem n9 (p : Pol) (e : Ent) (n : Int) (K : D → Prop) : runS (En Try.f9) (fi Try.f9 K) (n9s p) lv9 200 [.code []] ⟨argSlots 0 [p.d, e.d, I n], .empty⟩ =
  (PureW PP 11 [p.d] [p.d] (B (polOk p)) ∧ bif bif bif bif bif !polOk p then true else decide (n < -1) then true else decide (n > 1099511627776) then true else decide (e.to < -1) then true else decide (e.to > 1099511627776) then K (.tup [I 0, I 0]) else bif bif p.smp != 0 then decide (subI .i64 n e.to > p.smp) else false then K (.tup [I 2, I 0]) else bif bif p.full != 0 then decide (subI .i64 n e.to > p.full) else false then K (.tup [I 1, I p.stp]) else K (.tup [I 0, I 0])) := by kernel_rfl
theorem c9 (p : Pol) (e : Ent) (n : Int) : Pure PP 9 [p.d, e.d, I n] (.tup [I (level p e n).1, I (level p e n).2]) :=
  pu F9 (by kernel_rfl) (of_eq (n9 p e n _) ⟨PureW.mk (c11 _), by (repeat' (refine cond_intro (fun h => ?_) fun h => ?_)) <;> simp only [level, *, cond_true, cond_false, Wk.refl]⟩)
theorem F10 : OkF 10 Try.f10 := ⟨by kernel_rfl, by kernel_rfl, by kernel_rfl⟩
def lv10 : List (List Nat × List Nat) := []
noncomputable def n10s (p : Pol) : List Nat → Nat → Option Ans := scrAt [([1, 0, 0], 1, Ans.pure [p.d] (B (polOk p)))]
theorem n10 (p : Pol) (e : Ent) (n : Int) (K : D → Prop) : runS (En Try.f10) (fi Try.f10 K) (n10s p) lv10 200 [.code []] ⟨argSlots 0 [p.d, e.d, I n], .empty⟩ =
  (PureW PP 12 [p.d] [p.d] (B (polOk p)) ∧ bif bif bif bif bif !polOk p then true else decide (n < -1) then true else decide (n > 1099511627776) then true else decide (e.to < -1) then true else decide (e.to > 1099511627776) then K (.tup [I 0, I 0]) else bif bif decide (p.smp > 0) then decide (subI .i64 n e.to > p.smp) else false then K (.tup [I 2, I 0]) else bif bif decide (p.full > 0) then decide (subI .i64 n e.to > p.full) else false then K (.tup [I 1, I p.stp]) else K (.tup [I 0, I 0])) := by kernel_rfl
theorem c10 (p : Pol) (e : Ent) (n : Int) : Pure PP 10 [p.d, e.d, I n] (.tup [I (level p e n).1, I (level p e n).2]) := by
  rw [← levelR_eq]
  exact pu F10 (by kernel_rfl) (of_eq (n10 p e n _) ⟨PureW.mk (c12 _), by (repeat' (refine cond_intro (fun h => ?_) fun h => ?_)) <;> simp only [levelR, *, cond_true, cond_false, Wk.refl]⟩)

theorem sub64 {a b : Int} (h : -9223372036854775808 ≤ a - b) (k : a - b ≤ 9223372036854775807) : subI .i64 a b = a - b := IntWalk.i64_in _ ⟨h, k⟩
theorem add64 {a b : Int} (h : -9223372036854775808 ≤ a + b) (k : a + b ≤ 9223372036854775807) : addI .i64 a b = a + b := IntWalk.i64_in _ ⟨h, k⟩

def endOf (d : Dir) : Int := bif (↑d.blk.length : Int) == 0 then -1 else (d.blk.getD (subI .i64 (↑d.blk.length : Int) 1).toNat default).to
theorem F46 : OkF 46 Try.f46 := ⟨by kernel_rfl, by kernel_rfl, by kernel_rfl⟩
def lv46 : List (List Nat × List Nat) := []
noncomputable def n46s  : List Nat → Nat → Option Ans := scrAt []
theorem n46 (d : Dir) (K : D → Prop) : runS (En Try.f46) (fi Try.f46 K) (n46s ) lv46 200 [.code []] ⟨argSlots 0 [d.d], .empty⟩ =
  (d.blk.length ≤ lenM → bif (↑d.blk.length : Int) == 0 then K (I (-1)) else d.blk.length ≤ lenM → (0 ≤ subI .i64 (↑d.blk.length : Int) 1 ∧ subI .i64 (↑d.blk.length : Int) 1 < (↑d.blk.length : Int)) ∧ K (I (d.blk.getD (subI .i64 (↑d.blk.length : Int) 1).toNat default).to)) := by kernel_rfl
theorem lastIn {n : Nat} (h : n ≤ lenM) (h0 : ((n : Int) == 0) = false) : 0 ≤ subI .i64 (n : Int) 1 ∧ subI .i64 (n : Int) 1 < n := by
  unfold lenM at h
  have : (n : Int) ≠ 0 := by simpa using h0
  rw [sub64 (by omega) (by omega)]; omega
theorem wkIf {b : Bool} {x y : Int} {v : D} {p q : Prop} (h1 : b = true → Wk (I x) v → p) (h2 : b = false → Wk (I y) v → q) (h : Wk (I (bif b then x else y)) v) : (bif b then p else q) := by
  cases b
  · exact h2 rfl h
  · exact h1 rfl h
theorem c46 (d : Dir) : Pure PP 46 [d.d] (I (endOf d)) := pu F46 (by kernel_rfl) (of_eq (n46 d _) fun hl => wkIf (fun _ h => h) (fun h0 h _ => ⟨lastIn hl h0, h⟩) (Wk.refl _))
theorem F31 : OkF 31 Try.f31 := ⟨by kernel_rfl, by kernel_rfl, by kernel_rfl⟩
def lv31 : List (List Nat × List Nat) := []
noncomputable def n31s  : List Nat → Nat → Option Ans := scrAt []
theorem n31 (d : Dir) (K : D → Prop) : runS (En Try.f31) (fi Try.f31 K) (n31s ) lv31 200 [.code []] ⟨argSlots 0 [d.d], .empty⟩ =
  (d.blk.length ≤ lenM → bif (↑d.blk.length : Int) == 0 then K (I (-1)) else d.blk.length ≤ lenM → (0 ≤ subI .i64 (↑d.blk.length : Int) 1 ∧ subI .i64 (↑d.blk.length : Int) 1 < (↑d.blk.length : Int)) ∧ K (I (d.blk.getD (subI .i64 (↑d.blk.length : Int) 1).toNat default).to)) := by kernel_rfl
theorem c31 (d : Dir) : Pure PP 31 [d.d] (I (endOf d)) := pu F31 (by kernel_rfl) (of_eq (n31 d _) fun hl => wkIf (fun _ h => h) (fun h0 h _ => ⟨lastIn hl h0, h⟩) (Wk.refl _))

end Go.Proofs.Ytmlhaikblfjghaa.S1
/- Seat 1: the regions of a directory. -/
namespace Go.Proofs.Ytmlhaikblfjghaa.S1
open Go Go.Ab Go.Proofs

theorem add1 {i n : Nat} (h : i < n) (k : n ≤ lenM) : addI .i64 (i : Int) 1 = ((i + 1 : Nat) : Int) := by
  unfold lenM at k
  rw [add64 (by omega) (by omega)]; rfl
theorem ltI {i n : Nat} (h : decide ((i : Int) < (n : Int)) = true) : i < n := by simpa using h
theorem geI {i n : Nat} (h : decide ((i : Int) < (n : Int)) = false) : n ≤ i := by simpa using h
theorem take_snoc {α : Type} [Inhabited α] (l : List α) (i : Nat) (h : i < l.length) : l.take (i + 1) = l.take i ++ [l.getD i default] := by
  rw [List.take_succ_eq_append_getElem h]; simp [List.getD, h]

def regs (d : Dir) : List Rg := regOf d.hdr :: d.blk.map fun e => regOf e.plc
theorem F45 : OkF 45 Try.f45 := ⟨by kernel_rfl, by kernel_rfl, by kernel_rfl⟩
def lv45 : List (List Nat × List Nat) := [([1, 1, 0, 1, 0], [3, 11, 12, 13])]
noncomputable def n45s (d : Dir) : List Nat → Nat → Option Ans := scrAt [([1, 0], 2, Ans.pure [d.hdr.d] (regOf d.hdr).d)]
theorem n45 (d : Dir) (K : D → Heap → Prop) : runS (En Try.f45) (fh Try.f45 K) (n45s d) lv45 200 [.code []] ⟨argSlots 0 [d.d], .empty⟩ =
  (PureW PP 59 [d.hdr.d] [d.hdr.d] (regOf d.hdr).d ∧ (d.blk.length ≤ lenM → At (En Try.f45) (fh Try.f45 K) [It.code [1, 1, 0, 1, 0], It.blk 0, It.code [1, 1, 1]] { sl := [(3, .list 1 2 (litG [.agg [I (regOf d.hdr).frm, I (regOf d.hdr).cnt]]) .full), (11, L d.blk 7 Ent.d), (12, I (↑d.blk.length : Int)), (13, I 0)], h := Heap.empty : St })) := by kernel_rfl
def S45 (d : Dir) (i : Int) (out : List Rg) : St := ⟨[(3, LT out 2 Rg.d 0), (11, L d.blk 7 Ent.d), (12, I d.blk.length), (13, I i)], hT .empty out.length⟩
noncomputable def n45as (d : Dir) (i : Int) : List Nat → Nat → Option Ans := scrAt [([1, 1, 0, 1, 0, 0, 1, 1, 0, 0, 1], 3, Ans.pure [(d.blk.getD i.toNat default).plc.d] (regOf (d.blk.getD i.toNat default).plc).d)]
theorem n45a (d : Dir) (i : Int) (out : List Rg) (J : St → Prop) (K : D → Heap → Prop) : runS (En Try.f45) (fh Try.f45 K) (n45as d i) lv45 200 [.code [1, 1, 0, 1, 0, 0], stp [3, 11, 12, 13] J, .blk 0, .code [1, 1, 1]] (S45 d i out) =
  (bif decide (i < (↑d.blk.length : Int)) then (0 ≤ i ∧ i < (↑d.blk.length : Int)) ∧ True ∧ PureW PP 59 [(d.blk.getD i.toNat default).plc.d] [(d.blk.getD i.toNat default).plc.d] (regOf (d.blk.getD i.toNat default).plc).d ∧ (upd (fun _ => none) 0 (some out.length) 0 = some out.length ∧ (out.length + 1) * 16 ≤ roomM) ∧ J { sl := [(3, .list (out.length + 1) 2 (catG out.length (fun i => (out.getD i default).d) (litG [.agg [I (regOf (d.blk.getD i.toNat default).plc).frm, I (regOf (d.blk.getD i.toNat default).plc).cnt]])) (.tok 0 2)), (11, L d.blk 7 Ent.d), (12, I (↑d.blk.length : Int)), (13, I (addI .i64 i 1))], h := { box := fun _ => none, nl := 0, hw := upd (upd (fun _ => none) 0 (some out.length)) 0 (some (out.length + 1)), nt := 1, vw := fun _ => none : Heap } : St } else K (.list out.length 2 (fun i => (out.getD i default).d) (.tok 0 2)) { box := fun _ => none, nl := 0, hw := upd (fun _ => none) 0 (some out.length), nt := 1, vw := fun _ => none : Heap }) := by kernel_rfl
theorem regs_snoc (d : Dir) (i : Nat) (h : i < d.blk.length) : regs ⟨d.hdr, d.blk.take (i + 1)⟩ = regs ⟨d.hdr, d.blk.take i⟩ ++ [regOf (d.blk.getD i default).plc] := by
  simp [regs, take_snoc _ _ h]
theorem e45 (d : Dir) (hm : d.blk.length ≤ 1000000) : Does PP 45 [d.d] .empty (LT (regs d) 2 Rg.d 0) (hT .empty (regs d).length) := by
  refine du F45 (by kernel_rfl) (of_eq (n45 d _) ⟨PureW.mk (c59 _), fun hl => ?_⟩)
  refine at_le ?_ (StLe.tok1 _ (x := regOf d.hdr) (enc := Rg.d) 3 rfl)
  refine lp (fn := Try.f45) (fun i : Nat => i ≤ d.blk.length) (fun i => S45 d i (regs ⟨d.hdr, d.blk.take i⟩)) (fun i => d.blk.length - i) [3, 11, 12, 13] (by kernel_rfl) (fun i hi => of_eq (n45a d i _ _ _) (cond_intro (fun hlt => ?_) fun hge => ?_)) 0 (Nat.zero_le _)
  · have hlt := ltI hlt
    rw [add1 hlt hl, Int.toNat_natCast]
    refine ⟨⟨by omega, by omega⟩, trivial, PureW.mk (c59 _), ⟨upd_same _ _ _, ?_⟩, Nx.of (i + 1) (by omega) (by omega) ?_⟩
    · simp [regs, roomM]; omega
    · unfold S45
      rw [regs_snoc d i hlt]
      exact (StLe.set 3 rfl Wk.snoc rfl rfl).trans (StLe.heap (by simp [hT, upd_upd, Heap.empty]))
  · have := geI hge
    have hd : regs ⟨d.hdr, d.blk.take i⟩ = regs d := by rw [List.take_of_length_le this]
    rw [hd]
    exact RetLe.refl _ _
end Go.Proofs.Ytmlhaikblfjghaa.S1
/- Seat 1: the reference's marks. -/
namespace Go.Proofs.Ytmlhaikblfjghaa.S1
open Go Go.Ab Go.Proofs

def fitN (n : Int) (x : Rg) : Prop := 0 ≤ x.frm ∧ x.frm < n ∧ 1 ≤ x.cnt ∧ x.cnt ≤ n - x.frm
def hit (x : Rg) (k : Int) : Prop := x.frm ≤ k ∧ k < x.frm + x.cnt
instance {x : Rg} {k : Int} : Decidable (hit x k) := inferInstanceAs (Decidable (_ ∧ _))
instance {n : Int} {x : Rg} : Decidable (fitN n x) := inferInstanceAs (Decidable (_ ∧ _))
def apart (x y : Rg) : Prop := ∀ k, ¬ (hit x k ∧ hit y k)
def allocOk (n : Int) (l : List Rg) : Prop := 0 ≤ n ∧ n ≤ 1024 ∧ (∀ x ∈ l, fitN n x) ∧ l.Pairwise apart
def mrk (l : List Rg) (k : Nat) : Bool := l.any fun x => decide (hit x k)
open Classical in
noncomputable def marks (n : Int) (l : List Rg) : List Bool × Bool := if allocOk n l then ((List.range n.toNat).map (mrk l), true) else ([], false)

theorem F61 : OkF 61 Try.f61 := ⟨by kernel_rfl, by kernel_rfl, by kernel_rfl⟩
def lv61 : List (List Nat × List Nat) := [([1, 1, 1, 0, 1, 0], [0, 1, 6, 7]), ([1, 1, 1, 0, 1, 0, 0, 1, 0, 0, 1, 1, 1, 0], [0, 1, 6, 7, 8, 9])]
noncomputable def n61s  : List Nat → Nat → Option Ans := scrAt []
theorem n61 (n : Int) (l : List Rg) (K : D → Heap → Prop) : runS (En Try.f61) (fh Try.f61 K) (n61s ) lv61 200 [.code []] ⟨argSlots 0 [I n, L l 2 Rg.d], .empty⟩ =
  (bif bif decide (n < 0) then true else decide (n > 1024) then K (.tup [.list 0 0 (fun _ => D.junk) .full, B false]) Heap.empty else (0 ≤ n ∧ n = n ∧ n * ((↑0 : Int) + 1) ≤ (↑roomM : Int)) ∧ At (En Try.f61) (fh Try.f61 K) [It.code [1, 1, 1, 0, 1, 0], It.blk 0, It.code [1, 1, 1, 1]] { sl := [(0, I n), (1, L l 2 Rg.d), (6, D.sl 0 0 n.toNat), (7, I 0)], h := { box := upd (fun _ => none) 0 (some (Row.arr (n.toNat * 1) (cellsG 1 fun x => ofVal (Value.bool false)))), nl := 0 + 1, hw := fun _ => none, nt := 0, vw := fun _ => none : Heap } : St }) := by kernel_rfl
def H61 (n : Int) (m : Nat → Bool) : Heap := ⟨upd (fun _ => none) 0 (some (.arr n.toNat fun k => B (m k))), 1, fun _ => none, 0, fun _ => none⟩
def S61 (n : Int) (l : List Rg) (m : Nat → Bool) (i : Int) : St := ⟨[(0, I n), (1, L l 2 Rg.d), (6, .sl 0 0 n.toNat), (7, I i)], H61 n m⟩
noncomputable def n61as  : List Nat → Nat → Option Ans := scrAt []
theorem n61a (n : Int) (l : List Rg) (m : Nat → Bool) (i : Int) (J : St → Prop) (K : D → Heap → Prop) : runS (En Try.f61) (fh Try.f61 K) (n61as ) lv61 200 [.code [1, 1, 1, 0, 1, 0, 0], stp [0, 1, 6, 7] J, .blk 0, .code [1, 1, 1, 1]] (S61 n l m i) =
  (l.length ≤ lenM → bif decide (i < (↑l.length : Int)) then (0 ≤ i ∧ i < (↑l.length : Int)) ∧ True ∧ bif bif bif bif decide ((l.getD i.toNat default).frm < 0) then true else decide ((l.getD i.toNat default).frm ≥ n) then true else decide ((l.getD i.toNat default).cnt < 1) then true else decide ((l.getD i.toNat default).cnt > subI .i64 n (l.getD i.toNat default).frm) then K (.tup [.list 0 0 (fun _ => D.junk) .full, B false]) { box := upd (fun _ => none) 0 (some (Row.arr n.toNat fun k => B (m k))), nl := 1, hw := fun _ => none, nt := 0, vw := fun _ => none : Heap } else At (En Try.f61) (fh Try.f61 K) [It.code [1, 1, 1, 0, 1, 0, 0, 1, 0, 0, 1, 1, 1, 0], It.blk 2, It.blk 1, It.code [1, 1, 1, 0, 1, 0, 0, 1, 1], stp [0, 1, 6, 7] J, It.blk 0, It.code [1, 1, 1, 1]] { sl := [(0, I n), (1, L l 2 Rg.d), (6, D.sl 0 0 n.toNat), (7, I i), (8, .own [I (l.getD i.toNat default).frm, I (l.getD i.toNat default).cnt]), (9, I (l.getD i.toNat default).frm)], h := { box := upd (fun _ => none) 0 (some (Row.arr n.toNat fun k => B (m k))), nl := 1, hw := fun _ => none, nt := 0, vw := fun _ => none : Heap } : St } else K (.tup [D.sl 0 0 n.toNat, B true]) { box := upd (fun _ => none) 0 (some (Row.arr n.toNat fun k => B (m k))), nl := 1, hw := fun _ => none, nt := 0, vw := fun _ => none : Heap }) := by kernel_rfl
def T61 (n : Int) (l : List Rg) (i : Int) (m : Nat → Bool) (x : Rg) (k : Int) : St := ⟨[(0, I n), (1, L l 2 Rg.d), (6, .sl 0 0 n.toNat), (7, I i), (8, .own [I x.frm, I x.cnt]), (9, I k)], H61 n m⟩
noncomputable def n61bs  : List Nat → Nat → Option Ans := scrAt []
theorem n61b (n : Int) (l : List Rg) (m : Nat → Bool) (i k : Int) (x : Rg) (J : St → Prop) (J2 : St → Prop) (K : D → Heap → Prop) : runS (En Try.f61) (fh Try.f61 K) (n61bs ) lv61 200 [.code [1, 1, 1, 0, 1, 0, 0, 1, 0, 0, 1, 1, 1, 0, 0], stp [0, 1, 6, 7, 8, 9] J, .blk 2, .blk 1, .code [1, 1, 1, 0, 1, 0, 0, 1, 1], stp [0, 1, 6, 7] J2, .blk 0, .code [1, 1, 1, 1]] (T61 n l i m x k) =
  (bif decide (k < addI .i64 x.frm x.cnt) then (0 ≤ k ∧ k < (↑n.toNat : Int)) ∧ 0 + k.toNat * 1 < n.toNat ∧ bif m (0 + k.toNat * 1) then K (.tup [.list 0 0 (fun _ => D.junk) .full, B false]) { box := upd (fun _ => none) 0 (some (Row.arr n.toNat fun k => B (m k))), nl := 1, hw := fun _ => none, nt := 0, vw := fun _ => none : Heap } else (0 ≤ k ∧ k < (↑n.toNat : Int)) ∧ 0 + k.toNat * 1 + 1 ≤ n.toNat ∧ J { sl := [(0, I n), (1, L l 2 Rg.d), (6, D.sl 0 0 n.toNat), (7, I i), (8, .own [I x.frm, I x.cnt]), (9, I (addI .i64 k 1))], h := { box := upd (upd (fun _ => none) 0 (some (Row.arr n.toNat fun k => B (m k)))) 0 (some (Row.arr n.toNat fun i => bif (0 + k.toNat * 1).ble i && i.blt (0 + k.toNat * 1 + 1) then [B true].getD (i - (0 + k.toNat * 1)) D.junk else B (m i))), nl := 1, hw := fun _ => none, nt := 0, vw := fun _ => none : Heap } : St } else J2 { sl := [(0, I n), (1, L l 2 Rg.d), (6, D.sl 0 0 n.toNat), (7, I (addI .i64 i 1))], h := { box := upd (fun _ => none) 0 (some (Row.arr n.toNat fun k => B (m k))), nl := 1, hw := fun _ => none, nt := 0, vw := fun _ => none : Heap } : St }) := by kernel_rfl

theorem getD_mem {α : Type} [Inhabited α] {l : List α} {i : Nat} (h : i < l.length) : l.getD i default ∈ l := by
  rw [getD_list h]; exact List.getElem_mem h
theorem mrk_snoc (l : List Rg) (x : Rg) (k : Nat) : mrk (l ++ [x]) k = (mrk l k || decide (hit x k)) := by simp [mrk]

theorem marks_bad {n : Int} {l : List Rg} {h : Heap} (hb : ¬ allocOk n l) : ∃ h', RetLe (.tup [.list 0 0 (fun _ => .junk) .full, B false]) h (.tup [L (marks n l).1 1 fun b => B b, B (marks n l).2]) h' := by
  unfold marks
  rw [if_neg hb]
  exact ⟨_, RetLe.wk (Wk.tup (Wks.cons Wk.nilL (Wks.refl _))) rfl⟩

theorem c61 (n : Int) (l : List Rg) : Pure PP 61 [I n, L l 2 Rg.d] (.tup [L (marks n l).1 1 fun b => B b, B (marks n l).2]) := by
  refine pr F61 (by kernel_rfl) (of_eq (n61 n l _) (cond_intro (fun h => ?_) fun h => ?_))
  · exact marks_bad fun ha => by
      obtain ⟨a, b, _⟩ := ha
      simp at h; omega
  · have hn : 0 ≤ n ∧ n ≤ 1024 := by simp at h; omega
    clear h
    refine ⟨⟨hn.1, rfl, by simp [roomM]; omega⟩, ?_⟩
    rw [Nat.mul_one]
    refine at_le (st' := S61 n l (mrk (l.take 0)) (0 : Nat)) ?_ (StLe.heapLe (HeapLe.row (RowLe.fn fun i _ => rfl)))
    refine lp (fn := Try.f61) (fun i : Nat => i ≤ l.length ∧ (∀ x ∈ l.take i, fitN n x) ∧ (l.take i).Pairwise apart) (fun i => S61 n l (mrk (l.take i)) i) (fun i => l.length - i) [0, 1, 6, 7] (by kernel_rfl)
      (fun i ⟨hi, hf, hp⟩ => of_eq (n61a n l _ i _ _) fun hl => cond_intro (fun hlt => ?_) fun hge => ?_) 0 ⟨Nat.zero_le _, by simp, by simp⟩
    · have hlt := ltI hlt
      rw [Int.toNat_natCast]
      have hmem := getD_mem hlt
      have htk := take_snoc l i hlt
      generalize l.getD i default = x at hmem htk ⊢
      refine ⟨⟨by omega, by omega⟩, trivial, cond_intro (fun hb => ?_) fun hg => ?_⟩
      · exact marks_bad fun ha => by
          obtain ⟨a, b, c, d⟩ := ha.2.2.1 x hmem
          rw [sub64 (by omega) (by omega)] at hb
          simp at hb; omega
      · have hx : fitN n x := by
          simp at hg
          obtain ⟨⟨⟨a, b⟩, c⟩, d⟩ := hg
          rw [sub64 (by omega) (by omega)] at d
          exact ⟨a, b, c, d⟩
        obtain ⟨x1, x2, x3, x4⟩ := hx
        refine at_le (st' := T61 n l i (fun j => mrk (l.take i) j || decide (x.frm ≤ j ∧ j < x.frm)) x x.frm) ?_ (StLe.heapLe (HeapLe.row (RowLe.fn fun j _ => by simp; omega)))
        refine lp (fn := Try.f61) (fun k : Int => x.frm ≤ k ∧ k ≤ x.frm + x.cnt ∧ ∀ j : Nat, x.frm ≤ j → (j : Int) < k → mrk (l.take i) j = false) (fun k => T61 n l i (fun j => mrk (l.take i) j || decide (x.frm ≤ j ∧ j < k)) x k) (fun k => (x.frm + x.cnt - k).toNat) [0, 1, 6, 7, 8, 9] (by kernel_rfl)
          (fun k ⟨k1, k2, k3⟩ => of_eq (n61b n l _ i k x _ _ _) (cond_intro (fun hk => ?_) fun hk => ?_)) x.frm ⟨Int.le_refl _, by omega, fun j a b => by omega⟩
        · rw [add64 (by omega) (by omega)] at hk
          simp only [decide_eq_true_eq] at hk
          simp only [Nat.zero_add, Nat.mul_one]
          refine ⟨⟨by omega, by omega⟩, by omega, cond_intro (fun hm => ?_) fun hm => ?_⟩
          · refine marks_bad fun ha => ?_
            have hm' : mrk (l.take i) k.toNat = true := by
              simp only [Bool.or_eq_true, decide_eq_true_eq] at hm
              rcases hm with h | h
              · exact h
              · omega
            simp only [mrk, List.any_eq_true, decide_eq_true_eq] at hm'
            obtain ⟨y, hy, hyk⟩ := hm'
            have hpw := ha.2.2.2.sublist (List.take_sublist (i + 1) l)
            rw [htk, List.pairwise_append] at hpw
            exact hpw.2.2 y hy x (by simp) _ ⟨hyk, by unfold hit; omega⟩
          · rw [add64 (by omega) (by omega)]
            refine ⟨⟨by omega, by omega⟩, by omega, Nx.of (k + 1) ⟨by omega, by omega, fun j a b => ?_⟩ (by omega) (StLe.rewr (RowLe.fn fun j hj => ?_))⟩
            · by_cases h1 : (j : Int) < k
              · exact k3 j a h1
              · have : j = k.toNat := by omega
                subst this
                simp at hm; exact hm.1
            · refine (set_cell (f := fun j : Nat => B (mrk (l.take i) j || decide (x.frm ≤ (j : Int) ∧ (j : Int) < k)))).trans ?_
              by_cases hjk : j = k.toNat
              · subst hjk
                rw [if_pos rfl]
                have : decide (x.frm ≤ (k.toNat : Int) ∧ (k.toNat : Int) < k + 1) = true := by simp; omega
                show B true = B (mrk (l.take i) k.toNat || decide (x.frm ≤ (k.toNat : Int) ∧ (k.toNat : Int) < k + 1))
                rw [this, Bool.or_true]
              · rw [if_neg hjk]
                have : decide (x.frm ≤ (j : Int) ∧ (j : Int) < k) = decide (x.frm ≤ (j : Int) ∧ (j : Int) < k + 1) := by
                  rw [Bool.eq_iff_iff]; simp; omega
                show B (mrk (l.take i) j || decide (x.frm ≤ (j : Int) ∧ (j : Int) < k)) = B (mrk (l.take i) j || decide (x.frm ≤ (j : Int) ∧ (j : Int) < k + 1))
                rw [this]
        · rw [add64 (by omega) (by omega)] at hk
          simp only [decide_eq_false_iff_not] at hk
          have hkk : k = x.frm + x.cnt := by omega
          subst hkk
          rw [add1 hlt hl]
          have hap : ∀ y ∈ l.take i, apart y x := fun y hy q ⟨h1, h2⟩ => by
            have hfy := hf y hy
            unfold fitN at hfy
            unfold hit at h1 h2
            have := k3 q.toNat (by omega) (by omega)
            simp only [mrk, List.any_eq_false, decide_eq_true_eq] at this
            exact this y hy (by unfold hit; omega)
          refine Nx.of (i + 1) ⟨by omega, ?_, ?_⟩ (by omega) (StLe.heapLe (HeapLe.row (RowLe.fn fun j hj => ?_)))
          · rw [htk]
            intro y hy
            rcases List.mem_append.1 hy with h | h
            · exact hf y h
            · simp at h; subst h; exact ⟨x1, x2, x3, x4⟩
          · rw [htk, List.pairwise_append]
            exact ⟨hp, by simp, fun y hy z hz => by simp at hz; subst hz; exact hap y hy⟩
          · rw [htk, mrk_snoc]; rfl
    · have hge := geI hge
      have hd : l.take i = l := List.take_of_length_le hge
      rw [hd] at hf hp
      have hok : allocOk n l := ⟨hn.1, hn.2, hf, hp⟩
      unfold marks
      rw [if_pos hok, hd]
      refine ⟨_, (RetLe.layTup (sz := 1) (m := n.toNat) (n := n.toNat) (cg := fun k => B (mrk l k)) (get := fun k => B (mrk l k)) rfl (by omega) (ElemsOf.one fun k hk => ⟨rfl, rfl, rfl, by simp⟩)).trans (RetLe.wk (Wk.tup (Wks.cons (Wk.toL (by simp) (.inl rfl) fun i hi => ?_) (Wks.refl _))) rfl)⟩
      simp

end Go.Proofs.Ytmlhaikblfjghaa.S1
/- Seat 1: the reference's directories. -/
namespace Go.Proofs.Ytmlhaikblfjghaa.S1
open Go Go.Ab Go.Proofs

theorem F48 : OkF 48 Try.f48 := ⟨by kernel_rfl, by kernel_rfl, by kernel_rfl⟩
def lv48 : List (List Nat × List Nat) := []
noncomputable def n48s (n : Int) (l : List Rg) : List Nat → Nat → Option Ans := scrAt [([1, 0], 2, Ans.pure [I n, L l 2 Rg.d] (.tup [L (marks n l).fst 1 fun b => B b, B (marks n l).snd]))]
theorem n48 (n : Int) (l : List Rg) (K : D → Prop) : runS (En Try.f48) (fi Try.f48 K) (n48s n l) lv48 200 [.code []] ⟨argSlots 0 [I n, L l 2 Rg.d], .empty⟩ =
  (PureW PP 61 [I n, L l 2 Rg.d] [I n, L l 2 Rg.d] (.tup [L (marks n l).fst 1 fun b => B b, B (marks n l).snd]) ∧ K (B (marks n l).snd)) := by kernel_rfl
theorem c48 (n : Int) (l : List Rg) : Pure PP 48 [I n, L l 2 Rg.d] (B (marks n l).2) := pu F48 (by kernel_rfl) (of_eq (n48 n l _) ⟨PureW.mk (c61 _ _), Wk.refl _⟩)

theorem F47 : OkF 47 Try.f47 := ⟨by kernel_rfl, by kernel_rfl, by kernel_rfl⟩
def lv47 : List (List Nat × List Nat) := [([1, 1, 1, 0, 1, 0], [1, 5, 6, 7])]
noncomputable def n47s (d : Dir) : List Nat → Nat → Option Ans := scrAt [([1, 0], 2, Ans.pure [d.hdr.d] (.tup [(fitsR d.hdr).fst.d, B (fitsR d.hdr).snd]))]
theorem n47 (d : Dir) (K : D → Prop) : runS (En Try.f47) (fi Try.f47 K) (n47s d) lv47 200 [.code []] ⟨argSlots 0 [d.d], .empty⟩ =
  (PureW PP 60 [d.hdr.d] [d.hdr.d] (.tup [(fitsR d.hdr).fst.d, B (fitsR d.hdr).snd]) ∧ True ∧ At (En Try.f47) (fi Try.f47 K) [It.code [1, 1, 1, 0, 1, 0], It.blk 0, It.code [1, 1, 1, 1]] { sl := [(1, .own [I d.hdr.sec, I d.hdr.len, I d.hdr.sum, L d.blk 7 Ent.d]), (5, B (fitsR d.hdr).snd), (6, .list 1 2 (litG [.agg [I (fitsR d.hdr).fst.frm, I (fitsR d.hdr).fst.cnt]]) .full), (7, I 0)], h := Heap.empty : St }) := by kernel_rfl
def S47 (d : Dir) (ok : Bool) (out : List Rg) (i : Int) : St := ⟨[(1, .own [I d.hdr.sec, I d.hdr.len, I d.hdr.sum, L d.blk 7 Ent.d]), (5, B ok), (6, LT out 2 Rg.d 0), (7, I i)], hT .empty out.length⟩
noncomputable def n47as (d : Dir) (i : Int) : List Nat → Nat → Option Ans := scrAt [([1, 1, 1, 0, 1, 0, 0, 1, 0, 0, 0], 6, Ans.pure [(d.blk.getD i.toNat default).plc.d] (.tup [(fitsR (d.blk.getD i.toNat default).plc).fst.d, B (fitsR (d.blk.getD i.toNat default).plc).snd]))]
theorem n47a (d : Dir) (ok : Bool) (out : List Rg) (i : Int) (J : St → Prop) (K : D → Prop) : runS (En Try.f47) (fi Try.f47 K) (n47as d i) lv47 200 [.code [1, 1, 1, 0, 1, 0, 0], stp [1, 5, 6, 7] J, .blk 0, .code [1, 1, 1, 1]] (S47 d ok out i) =
  (d.blk.length ≤ lenM → bif decide (i < (↑d.blk.length : Int)) then (0 ≤ i ∧ i < (↑d.blk.length : Int)) ∧ PureW PP 60 [(d.blk.getD i.toNat default).plc.d] [(d.blk.getD i.toNat default).plc.d] (.tup [(fitsR (d.blk.getD i.toNat default).plc).fst.d, B (fitsR (d.blk.getD i.toNat default).plc).snd]) ∧ True ∧ (upd (fun _ => none) 0 (some out.length) 0 = some out.length ∧ (out.length + 1) * 16 ≤ roomM) ∧ J { sl := [(1, .own [I d.hdr.sec, I d.hdr.len, I d.hdr.sum, L d.blk 7 Ent.d]), (5, B (bif ok then (fitsR (d.blk.getD i.toNat default).plc).snd else false)), (6, .list (out.length + 1) 2 (catG out.length (fun i => (out.getD i default).d) (litG [.agg [I (fitsR (d.blk.getD i.toNat default).plc).fst.frm, I (fitsR (d.blk.getD i.toNat default).plc).fst.cnt]])) (.tok 0 2)), (7, I (addI .i64 i 1))], h := { box := fun _ => none, nl := 0, hw := upd (upd (fun _ => none) 0 (some out.length)) 0 (some (out.length + 1)), nt := 1, vw := fun _ => none : Heap } : St } else K (.tup [.list out.length 2 (fun i => (out.getD i default).d) (.tok 0 2), B ok])) := by kernel_rfl
def regsR (d : Dir) : List Rg := (fitsR d.hdr).1 :: d.blk.map fun e => (fitsR e.plc).1
def okR (d : Dir) : Bool := (d.blk.all fun e => (fitsR e.plc).2) && (fitsR d.hdr).2
theorem regsR_snoc (d : Dir) (i : Nat) (h : i < d.blk.length) : regsR ⟨d.hdr, d.blk.take (i + 1)⟩ = regsR ⟨d.hdr, d.blk.take i⟩ ++ [(fitsR (d.blk.getD i default).plc).1] := by simp [regsR, take_snoc _ _ h]
theorem okR_snoc (d : Dir) (i : Nat) (h : i < d.blk.length) : okR ⟨d.hdr, d.blk.take (i + 1)⟩ = (bif okR ⟨d.hdr, d.blk.take i⟩ then (fitsR (d.blk.getD i default).plc).2 else false) := by
  simp only [okR, take_snoc _ _ h, List.all_append]
  generalize (fitsR d.hdr).2 = a
  generalize (List.all (d.blk.take i) fun e => (fitsR e.plc).2) = b
  cases a <;> cases b <;> simp
theorem c47 (d : Dir) (hm : d.blk.length ≤ 1000000) : Pure PP 47 [d.d] (.tup [L (regsR d) 2 Rg.d, B (okR d)]) := by
  refine pu F47 (by kernel_rfl) (of_eq (n47 d _) ⟨PureW.mk (c60 _), trivial, ?_⟩)
  refine at_le ?_ (StLe.tok1 _ (x := (fitsR d.hdr).1) (enc := Rg.d) 6 rfl)
  refine lp (fn := Try.f47) (fun i : Nat => i ≤ d.blk.length) (fun i => S47 d (okR ⟨d.hdr, d.blk.take i⟩) (regsR ⟨d.hdr, d.blk.take i⟩) i) (fun i => d.blk.length - i) [1, 5, 6, 7] (by kernel_rfl) (fun i hi => of_eq (n47a d _ _ i _ _) fun hl => cond_intro (fun hlt => ?_) fun hge => ?_) 0 (Nat.zero_le _)
  · have hlt := ltI hlt
    rw [add1 hlt hl, Int.toNat_natCast]
    refine ⟨⟨by omega, by omega⟩, PureW.mk (c60 _), trivial, ⟨rfl, ?_⟩, Nx.of (i + 1) (by omega) (by omega) ?_⟩
    · simp [regsR, roomM]; omega
    · unfold S47
      rw [regsR_snoc d i hlt, okR_snoc d i hlt]
      exact (StLe.set 6 rfl Wk.snoc rfl rfl).trans (StLe.heap (by simp [hT, upd_upd, Heap.empty]))
  · have := geI hge
    have hd : d.blk.take i = d.blk := List.take_of_length_le this
    rw [hd]
    exact Wk.tup (Wks.cons Wk.tokL (Wks.refl _))
theorem F30 : OkF 30 Try.f30 := ⟨by kernel_rfl, by kernel_rfl, by kernel_rfl⟩
def lv30 : List (List Nat × List Nat) := [([1, 1, 1, 1, 1, 0, 1, 0], [1, 5, 6])]
noncomputable def n30s (d : Dir) : List Nat → Nat → Option Ans := scrAt [([1, 1, 0], 1, Ans.pure [d.d] (.tup [L (regsR d) 2 Rg.d, B (okR d)])), ([1, 1, 1, 0, 0], 4, Ans.pure [I 1024, L (regsR d) 2 Rg.d] (B (marks 1024 (regsR d)).snd))]
theorem n30 (d : Dir) (K : D → Prop) : runS (En Try.f30) (fi Try.f30 K) (n30s d) lv30 200 [.code []] ⟨argSlots 0 [d.d], .empty⟩ =
  (d.blk.length ≤ lenM → bif decide ((↑d.blk.length : Int) > 32) then K (B false) else PureW PP 47 [d.d] [d.d] (.tup [L (regsR d) 2 Rg.d, B (okR d)]) ∧ ((!!okR d) = true → PureW PP 48 [I 1024, L (regsR d) 2 Rg.d] [I 1024, L (regsR d) 2 Rg.d] (B (marks 1024 (regsR d)).snd)) ∧ bif bif !okR d then true else !(marks 1024 (regsR d)).snd then K (B false) else At (En Try.f30) (fi Try.f30 K) [It.code [1, 1, 1, 1, 1, 0, 1, 0], It.blk 0, It.code [1, 1, 1, 1, 1, 1]] { sl := [(1, .own [I d.hdr.sec, I d.hdr.len, I d.hdr.sum, L d.blk 7 Ent.d]), (5, I (-1)), (6, I 0)], h := Heap.empty : St }) := by kernel_rfl
def S30 (d : Dir) (at_ i : Int) : St := ⟨[(1, .own [I d.hdr.sec, I d.hdr.len, I d.hdr.sum, L d.blk 7 Ent.d]), (5, I at_), (6, I i)], .empty⟩
noncomputable def n30as  : List Nat → Nat → Option Ans := scrAt []
theorem n30a (d : Dir) (at_ i : Int) (J : St → Prop) (K : D → Prop) : runS (En Try.f30) (fi Try.f30 K) (n30as ) lv30 200 [.code [1, 1, 1, 1, 1, 0, 1, 0, 0], stp [1, 5, 6] J, .blk 0, .code [1, 1, 1, 1, 1, 1]] (S30 d at_ i) =
  (d.blk.length ≤ lenM → bif decide (i < (↑d.blk.length : Int)) then (0 ≤ i ∧ i < (↑d.blk.length : Int)) ∧ True ∧ bif bif bif (d.blk.getD i.toNat default).frm != at_ then true else decide ((d.blk.getD i.toNat default).to ≤ (d.blk.getD i.toNat default).frm) then true else decide ((d.blk.getD i.toNat default).to > 1099511627776) then K (B false) else bif bif !bif bif (d.blk.getD i.toNat default).lvl == 1 then decide ((d.blk.getD i.toNat default).stp ≥ 1) else false then decide ((d.blk.getD i.toNat default).stp ≤ 1099511627776) else false then bif bif (d.blk.getD i.toNat default).lvl != 0 then (d.blk.getD i.toNat default).lvl != 2 else false then true else (d.blk.getD i.toNat default).stp != 0 else false then K (B false) else J { sl := [(1, .own [I d.hdr.sec, I d.hdr.len, I d.hdr.sum, L d.blk 7 Ent.d]), (5, I (d.blk.getD i.toNat default).to), (6, I (addI .i64 i 1))], h := Heap.empty : St } else K (B true)) := by kernel_rfl


/-- The entries from i on, behind time at_. -/
def entOk (at_ : Int) : List Ent → Bool
  | [] => true
  | x :: r => bif bif bif x.frm != at_ then true else decide (x.to ≤ x.frm) then true else decide (x.to > 1099511627776) then false
    else bif bif !bif bif x.lvl == 1 then decide (x.stp ≥ 1) else false then decide (x.stp ≤ 1099511627776) else false then bif bif x.lvl != 0 then x.lvl != 2 else false then true else x.stp != 0 else false then false else entOk x.to r
noncomputable def dirOkR (d : Dir) : Bool := decide (d.blk.length ≤ 32) && okR d && (marks 1024 (regsR d)).2 && entOk (-1) d.blk

theorem entOk_bad {at_ : Int} {x : Ent} {r : List Ent} (h : (bif bif x.frm != at_ then true else decide (x.to ≤ x.frm) then true else decide (x.to > 1099511627776)) = true) : entOk at_ (x :: r) = false := by
  simp only [entOk, h, cond_true]
theorem drop_cons {α : Type} [Inhabited α] (l : List α) (i : Nat) (h : i < l.length) : l.drop i = l.getD i default :: l.drop (i + 1) := by
  rw [List.drop_eq_getElem_cons h]; simp [List.getD, h]
theorem c30 (d : Dir) : Pure PP 30 [d.d] (B (dirOkR d)) := by
  refine pu F30 (by kernel_rfl) (of_eq (n30 d _) fun hl => cond_intro (fun h => ?_) fun h => ?_)
  · have : ¬ d.blk.length ≤ 32 := by simp at h; omega
    simp only [dirOkR, this, decide_false, Bool.false_and]; exact Wk.refl _
  · have hle : d.blk.length ≤ 32 := by simp at h; omega
    refine ⟨PureW.mk (c47 d (by omega)), fun _ => PureW.mk (c48 _ _), cond_intro (fun h => ?_) fun h => ?_⟩
    · have : (okR d && (marks 1024 (regsR d)).2) = false := by
        cases h1 : okR d <;> cases h2 : (marks 1024 (regsR d)).2 <;> simp_all
      simp only [dirOkR, hle, decide_true, Bool.true_and, this, Bool.false_and]; exact Wk.refl _
    · have : (okR d && (marks 1024 (regsR d)).2) = true := by
        cases h1 : okR d <;> cases h2 : (marks 1024 (regsR d)).2 <;> simp_all
      have hd : dirOkR d = entOk (-1) d.blk := by simp only [dirOkR, hle, decide_true, Bool.true_and, this]
      rw [hd]
      refine lp (fn := Try.f30) (fun x : Nat × Int => x.1 ≤ d.blk.length ∧ entOk (-1) d.blk = entOk x.2 (d.blk.drop x.1)) (fun x => S30 d x.2 x.1) (fun x => d.blk.length - x.1) [1, 5, 6] (by kernel_rfl) (fun x hx => of_eq (n30a d x.2 x.1 _ _) ?_) (0, -1) ⟨Nat.zero_le _, rfl⟩
      obtain ⟨i, at_⟩ := x
      obtain ⟨hi, he⟩ := hx
      simp only at hi he ⊢
      refine fun hl => cond_intro (fun hlt => ?_) fun hge => ?_
      · have hlt := ltI hlt
        rw [add1 hlt hl, Int.toNat_natCast, he, drop_cons _ _ hlt]
        rw [drop_cons _ _ hlt] at he
        generalize d.blk.getD i default = x at he ⊢
        refine ⟨⟨by omega, by omega⟩, trivial, cond_intro (fun h => ?_) fun h => cond_intro (fun h2 => ?_) fun h2 => ?_⟩
        · rw [entOk_bad h]; exact Wk.refl _
        · simp only [entOk, h, h2, cond_true, cond_false]; exact Wk.refl _
        · refine Nx.mk (i + 1, x.to) ⟨hlt, ?_⟩ (by simp only; omega)
          show entOk at_ (x :: d.blk.drop (i + 1)) = entOk x.to (d.blk.drop (i + 1))
          simp only [entOk, h, h2, cond_false]
      · have := geI hge
        rw [he]
        simp only [List.drop_of_length_le this]
        exact Wk.refl _

end Go.Proofs.Ytmlhaikblfjghaa.S1
/- Seat 1: sorted regions. -/
namespace Go.Proofs
open Go.Shelf
def Try.sortRg_ren : Go.Shelf.Ren := ⟨fun | 6 => 63 | 15 => 68 | 14 => 67 | 28 => 78 | 29 => 79 | 20 => 70 | 21 => 71 | 22 => 72 | 23 => 73 | 24 => 74 | 25 => 75 | 26 => 76 | 27 => 77 | 46 => 80 | 47 => 81 | 48 => 82 | 49 => 83 | 50 => 84 | 57 => 85 | n => n, fun | 22 => 58 | 24 => 62 | 25 => 108 | 3 => 3 | 39 => 111 | 0 => 0 | 53 => 122 | 55 => 124 | 4 => 4 | 46 => 115 | 45 => 114 | 50 => 119 | 5 => 5 | 9 => 9 | 66 => 125 | 70 => 129 | 76 => 131 | 77 => 32 | n => n, fun | n => n⟩
theorem Try.sortRg : Go.Proofs.SlLaysF0.n6 Try.prog Try.sortRg_ren := {
  mixed := by kernel_rfl
  f6 := ⟨Try.f63.name, by decide, Try.func63.trans (congrArg some (by kernel_rfl))⟩
  f14 := ⟨Try.f67.name, by decide, Try.func67.trans (congrArg some (by kernel_rfl))⟩
  f15 := Try.func68.trans (congrArg some (by kernel_rfl))
  f20 := ⟨Try.f70.name, by decide, Try.func70.trans (congrArg some (by kernel_rfl))⟩
  f21 := ⟨Try.f71.name, by decide, Try.func71.trans (congrArg some (by kernel_rfl))⟩
  f22 := ⟨Try.f72.name, by decide, Try.func72.trans (congrArg some (by kernel_rfl))⟩
  f23 := ⟨Try.f73.name, by decide, Try.func73.trans (congrArg some (by kernel_rfl))⟩
  f24 := ⟨Try.f74.name, by decide, Try.func74.trans (congrArg some (by kernel_rfl))⟩
  f25 := ⟨Try.f75.name, by decide, Try.func75.trans (congrArg some (by kernel_rfl))⟩
  f26 := ⟨Try.f76.name, by decide, Try.func76.trans (congrArg some (by kernel_rfl))⟩
  f27 := ⟨Try.f77.name, by decide, Try.func77.trans (congrArg some (by kernel_rfl))⟩
  f28 := Try.func78.trans (congrArg some (by kernel_rfl))
  f29 := Try.func79.trans (congrArg some (by kernel_rfl))
  f46 := ⟨Try.f80.name, by decide, Try.func80.trans (congrArg some (by kernel_rfl))⟩
  f47 := Try.func81.trans (congrArg some (by kernel_rfl))
  f48 := Try.func82.trans (congrArg some (by kernel_rfl))
  f49 := ⟨Try.f83.name, by decide, Try.func83.trans (congrArg some (by kernel_rfl))⟩
  f50 := ⟨Try.f84.name, by decide, Try.func84.trans (congrArg some (by kernel_rfl))⟩
  f57 := ⟨Try.f85.name, by decide, Try.func85.trans (congrArg some (by kernel_rfl))⟩
  t0 := Try.underlying0
  a0 := Try.isAgg0
  z0 := Try.sizeOf0
  v0 := Try.zeroValue0
  t3 := Try.underlying3
  a3 := Try.isAgg3
  z3 := Try.sizeOf3
  v3 := Try.zeroValue3
  t4 := Try.underlying4
  a4 := Try.isAgg4
  z4 := Try.sizeOf4
  v4 := Try.zeroValue4
  t5 := Try.underlying5
  a5 := Try.isAgg5
  z5 := Try.sizeOf5
  v5 := Try.zeroValue5
  t9 := Try.underlying9
  a9 := Try.isAgg9
  z9 := Try.sizeOf9
  v9 := Try.zeroValue9
  t22 := Try.underlying58
  a22 := Try.isAgg58
  z22 := Try.sizeOf58
  v22 := Try.zeroValue58
  t25 := Try.underlying108
  a25 := Try.isAgg108
  z25 := Try.sizeOf108
  v25 := Try.zeroValue108
  t39 := Try.underlying111
  a39 := Try.isAgg111
  z39 := Try.sizeOf111
  v39 := Try.zeroValue111
  t45 := Try.underlying114
  a45 := Try.isAgg114
  z45 := Try.sizeOf114
  v45 := Try.zeroValue114
  t46 := Try.underlying115
  a46 := Try.isAgg115
  z46 := Try.sizeOf115
  v46 := Try.zeroValue115
  t50 := Try.underlying119
  a50 := Try.isAgg119
  z50 := Try.sizeOf119
  v50 := Try.zeroValue119
  t53 := Try.underlying122
  a53 := Try.isAgg122
  z53 := Try.sizeOf122
  v53 := Try.zeroValue122
  t55 := Try.underlying124
  a55 := Try.isAgg124
  z55 := Try.sizeOf124
  v55 := Try.zeroValue124
  t66 := Try.underlying125
  a66 := Try.isAgg125
  z66 := Try.sizeOf125
  v66 := Try.zeroValue125
  t70 := Try.underlying129
  a70 := Try.isAgg129
  z70 := Try.sizeOf129
  v70 := Try.zeroValue129
  t76 := Try.underlying131
  a76 := Try.isAgg131
  z76 := Try.sizeOf131
  v76 := Try.zeroValue131
  t77 := Try.underlying32
  a77 := Try.isAgg32
  z77 := Try.sizeOf32
  v77 := Try.zeroValue32 }
def Try.cmpInt_ren : Go.Shelf.Ren := ⟨fun | 5 => 65 | 7 => 69 | n => n, fun | 22 => 3 | 3 => 3 | 4 => 4 | n => n, fun | n => n⟩
theorem Try.cmpInt : Go.Proofs.SlLaysC2.n5 Try.prog Try.cmpInt_ren := {
  mixed := by kernel_rfl
  f5 := ⟨Try.f65.name, by decide, Try.func65.trans (congrArg some (by kernel_rfl))⟩
  f7 := ⟨Try.f69.name, by decide, Try.func69.trans (congrArg some (by kernel_rfl))⟩
  t3 := Try.underlying3
  a3 := Try.isAgg3
  z3 := Try.sizeOf3
  v3 := Try.zeroValue3
  t4 := Try.underlying4
  a4 := Try.isAgg4
  z4 := Try.sizeOf4
  v4 := Try.zeroValue4
  t22 := Try.underlying3
  a22 := Try.isAgg3
  z22 := Try.sizeOf3
  v22 := Try.zeroValue3 }
end Go.Proofs
namespace Go.Proofs.Ytmlhaikblfjghaa.S1
open Go Go.Ab Go.Proofs

theorem catG_zero (f g : Nat → D) : catG 0 f g = g := by
  funext i
  have : Nat.blt i 0 = false := by rw [← Bool.not_eq_true, Nat.blt_eq]; omega
  simp [catG, this]
def bxR (h : Heap) (es : List Rg) : Heap := ⟨upd h.box h.nl (some (.arr (es.length * 2) (cellsG 2 fun i => Rg.d (es.getD i default)))), h.nl + 1, h.hw, h.nt, h.vw⟩
theorem F62 : OkF 62 Try.f62 := ⟨by kernel_rfl, by kernel_rfl, by kernel_rfl⟩
def lv62 : List (List Nat × List Nat) := []
noncomputable def n62s  : List Nat → Nat → Option Ans := scrAt []
theorem n62 (es : List Rg) (h : Heap) (K : D → Heap → Prop) : runS (EnX [7] Try.f62) (fh Try.f62 K) (n62s ) lv62 200 [.code []] ⟨argSlots 0 [L es 2 Rg.d], h⟩ =
  (0 < es.length ∧ (0 < es.length ∧ (0 + es.length) * 16 ≤ roomM) ∧ K (D.sl h.nl 0 (0 + es.length)) { box := upd h.box h.nl (some (Row.arr ((0 + es.length) * 2) (cellsG 2 (catG 0 (litG []) fun i => (es.getD i default).d)))), nl := h.nl + 1, hw := h.hw, nt := h.nt, vw := h.vw : Heap }) := by kernel_rfl
theorem e62 (es : List Rg) (h : Heap) (hne : es ≠ []) (hl : es.length ≤ 1000000) : Does PP 62 [L es 2 Rg.d] h (.sl h.nl 0 es.length) ⟨upd h.box h.nl (some (.arr (es.length * 2) (cellsG 2 fun i => Rg.d (es.getD i default)))), h.nl + 1, h.hw, h.nt, h.vw⟩ := by
  have h0 : 0 < es.length := List.length_pos_iff.2 hne
  refine du F62 (by kernel_rfl) (of_eq (n62 es h _) ?_)
  rw [Nat.zero_add, catG_zero]
  exact ⟨h0, ⟨h0, by unfold roomM; omega⟩, RetLe.refl _ _⟩

open Go.Shelf Go.RowKit Go.Lib Go.Sort in
theorem cmpR (x y : Rg) (W : World) : Calls Try.prog 64 #[.agg #[.int .i64 x.frm, .int .i64 x.cnt], .agg #[.int .i64 y.frm, .int .i64 y.cnt]] W fun e w' => e = .returned (.int .i64 (Lib.compareInt x.frm y.frm)) ∧ ∃ q os', w' = grow (W.drewN q) os' := by
  have hcon := fun W' => AnyG.cmp_Compare_int Try.cmpInt x.frm y.frm W'
  change ∀ W', Calls Try.prog 65 _ _ _ at hcon
  generalize Lib.compareInt x.frm y.frm = r at hcon ⊢
  go_enter Try.func64, Try.ntmps64
  go_wp2_with (go_at_call 65; refine (hcon _).mono ?_; rintro e w' ⟨rfl, rfl⟩)
  go_ret
  exact ⟨rfl, 0, _, by rw [alloc_eq_grow, alloc_eq_grow, grow_grow]; rfl⟩

def encR (x : Rg) : List Value := [.int .i64 x.frm, .int .i64 x.cnt]
def ltR : Rg → Rg → Bool := Go.Proofs.ltOf fun x y => Go.Lib.compareInt x.frm y.frm
theorem ltR_eq (x y : Rg) : ltR x y = decide (x.frm < y.frm) := by
  unfold ltR Go.Proofs.ltOf Go.Lib.compareInt
  by_cases h1 : x.frm < y.frm
  · simp [h1]
  · by_cases h2 : y.frm < x.frm <;> simp [h1, h2]
theorem swoR : Go.Sort.SWO ltR where
  irrefl x := by rw [ltR_eq]; simp
  trans x y z h1 h2 := by rw [ltR_eq] at *; simp at *; omega
  ntrans x y z h1 h2 := by rw [ltR_eq] at *; simp at *; omega
def srt (es : List Rg) : List Rg := (Go.Sort.pdq ltR es.toArray 0 es.length (Go.Lib.bitLen es.length) true true).toList
theorem srt_spec (es : List Rg) : (srt es).Perm es ∧ (srt es).Pairwise fun x y => x.frm ≤ y.frm := by
  have h := Go.Sort.pdq_sorts ltR swoR es.toArray 0 es.length (Go.Lib.bitLen es.length) true true (Nat.zero_le _) (by simp) (Or.inl rfl)
  obtain ⟨⟨h1, _, h2⟩, h3⟩ := h
  have hsz : (Go.Sort.pdq ltR es.toArray 0 es.length (Go.Lib.bitLen es.length) true true).size = es.length := by rw [h1]; simp
  unfold srt
  generalize Go.Sort.pdq ltR es.toArray 0 es.length (Go.Lib.bitLen es.length) true true = A at *
  refine ⟨?_, ?_⟩
  · have e1 : A.extract 0 es.length = A := by rw [← hsz]; simp
    have e2 : es.toArray.extract 0 es.length = es.toArray := by simp
    rw [e1, e2] at h2
    exact h2
  · rw [List.pairwise_iff_getElem]
    intro i j hi hj hij
    have hi' : i < A.size := by simpa using hi
    have hj' : j < A.size := by simpa using hj
    have := h3 i j (Nat.zero_le _) hij (by omega)
    rw [ltR_eq, getElem!_pos _ i hi', getElem!_pos _ j hj'] at this
    simp at this ⊢
    omega
theorem srt_len (es : List Rg) : (srt es).length = es.length := (srt_spec es).1.length_eq

open Go.Shelf Go.RowKit Go.Lib Go.Sort in
theorem sortW {w : World} {b n : Nat} {d : Array Rg} {os : Array Obj} {vals : Array Value} {T : Nat} (hb : w.heap[b]? = some (.cells vals T (0, 0))) :
    (sortWorldK encR 2 w b 0 n d os).heap[b]? = some (.cells (putCells id 0 (flatK encR 2 d) vals) T (0, 0)) ∧ (∀ k, k ≠ b → k < w.heap.size → (sortWorldK encR 2 w b 0 n d os).heap[k]? = w.heap[k]?) ∧ w.heap.size ≤ (sortWorldK encR 2 w b 0 n d os).heap.size ∧
      (sortWorldK encR 2 w b 0 n d os).os = w.os ∧ (sortWorldK encR 2 w b 0 n d os).tape = w.tape ∧ (sortWorldK encR 2 w b 0 n d os).output = w.output := by
  have hlt : b < w.heap.size := by
    rcases Nat.lt_or_ge b w.heap.size with h | h
    · exact h
    · rw [Array.getElem?_eq_none h] at hb; cases hb
  refine ⟨?_, fun k hk hkl => ?_, ?_, rfl, rfl, rfl⟩
  · simp only [sortWorldK, grow, putRowK, putRow, mapBlock, Sort.ahead]
    rw [Array.getElem?_append_left (by simpa using hlt), Array.getElem?_modify, if_pos rfl, hb]
    rfl
  · simp only [sortWorldK, grow, putRowK, putRow, mapBlock, Sort.ahead]
    rw [Array.getElem?_append_left (by simpa using hkl), Array.getElem?_modify, if_neg (fun h => hk h.symm)]
  · simp [sortWorldK, grow, putRowK, putRow, mapBlock, Sort.ahead]

def cellR (es : List Rg) (j : Nat) : Int := if j % 2 = 0 then (es.getD (j / 2) default).frm else (es.getD (j / 2) default).cnt
theorem cellR_d (es : List Rg) (j : Nat) : cellsG 2 (fun i => Rg.d (es.getD i default)) j = I (cellR es j) := by
  rw [cellsG_get _ (by rfl)]
  unfold cellR
  rcases (by omega : j % 2 = 0 ∨ j % 2 = 1) with h | h <;> rw [h] <;> rfl
theorem cellR_v (es : List Rg) (j : Nat) (h : j < es.length * 2) : (Go.Sort.flatK encR 2 es.toArray)[j]! = .int .i64 (cellR es j) := by
  rw [Go.Sort.get_flatK _ _ _ _ (by simpa using h)]
  have hj : j / 2 < es.length := by omega
  have e : es.toArray[j / 2]! = es.getD (j / 2) default := by
    rw [getElem!_pos _ _ (by simpa using hj), getD_list hj]; simp
  rw [e]
  unfold cellR
  rcases (by omega : j % 2 = 0 ∨ j % 2 = 1) with h | h <;> rw [h] <;> rfl

open Go.Shelf Go.RowKit Go.Lib Go.Sort in
theorem e63 (es : List Rg) (hne : es ≠ []) (hl : es.length ≤ 1000000) (f : Nat → Option Row) (l nl nt : Nat) (hw : Nat → Option Nat) (vw : Nat → Option (Nat → D)) :
    Does PP 63 [.sl l 0 es.length, .clo 64 []] ⟨upd f l (some (.arr (es.length * 2) (cellsG 2 fun i => Rg.d (es.getD i default)))), nl, hw, nt, vw⟩ (.tup [])
      ⟨upd f l (some (.arr ((srt es).length * 2) (cellsG 2 fun i => Rg.d ((srt es).getD i default)))), nl, hw, nt, vw⟩ := by
  have h0 : 0 < es.length := List.length_pos_iff.2 hne
  refine Does.of_calls ⟨Try.f63, by kernel_rfl, by kernel_rfl, by kernel_rfl⟩ fun g U w vs i hs => ?_
  obtain ⟨b, e1, ⟨T, vals, e2, e3, e4⟩, e5, e6⟩ := i.box l _ (upd_same _ _ _)
  simp only [Rs, R] at hs
  obtain ⟨_, _, rfl, ⟨b', hb', a, cap, rfl, hcap, hlen, ha⟩, _, _, rfl, ⟨_, rfl, rfl⟩, rfl⟩ := hs
  rw [e1] at hb'; cases hb'
  have ha' := ha (by omega)
  subst ha'
  have hlt : b < w.heap.size := i.muLt l b e1
  have hH : HoldsK encR 2 w b 0 es.toArray := by
    intro j hj
    have hj' : j < es.length * 2 := by simpa using hj
    obtain ⟨v, h1, h2⟩ := e4 j hj'
    rw [cellR_d] at h2
    have h2' : v = .int .i64 (cellR es j) := by simpa only [R] using h2
    rw [cellR_v es j hj', ← h2']
    simp only [World.cell?, World.frozen?, e2, Nat.zero_add]
    exact ⟨h1, by simp⟩
  have hcon := AnyQ.slices_SortFunc_eq Try.sortRg 2 Try.isAgg62 Try.sizeOf62 encR (fun _ => rfl) (fun x v hv => by simp [encR] at hv; rcases hv with rfl | rfl <;> rfl) (fun x y => Lib.compareInt x.frm y.frm) swoR 64 #[] b 0 cap es.toArray w (enters_of Try.func64 (by kernel_rfl) rfl) (fun _ _ _ _ x y => cmpR x y _) hH hlt (by simp; omega)
  change Calls Try.prog 63 _ _ _ at hcon
  have hsz : es.toArray.size = es.length := by simp
  rw [hsz] at hcon
  refine hcon.mono fun e w' ⟨he, n, os, hw'⟩ => ?_
  subst hw'
  obtain ⟨h1, h2, h3, h4, h5, h6⟩ := sortW (n := n) (d := Go.Sort.pdq ltR es.toArray 0 es.length (Go.Lib.bitLen es.length) true true) (os := os) e2
  refine ⟨.tuple #[], g, he, by simp [R, Rs], i.row e1 h1 ?_ h3 h2, Grow.refl U g, ⟨h4, h5, h6, h3, fun k hk => h2 k (fun h => e5 (h ▸ hk)) (i.ub k hk)⟩⟩
  have hd : Go.Sort.pdq ltR es.toArray 0 es.length (Go.Lib.bitLen es.length) true true = (srt es).toArray := by simp [srt]
  rw [hd]
  refine ⟨by simp [putCells, srt_len]; omega, fun j hj => ?_⟩
  rw [cellR_d]
  refine ⟨.int .i64 (cellR (srt es) j), ?_, by simp only [R]⟩
  have hj' : j < es.length * 2 := by rw [← srt_len]; exact hj
  rw [← cellR_v _ j hj]
  simp [putCells, Array.getElem?_eq_getElem (show j < vals.size by omega), hj]
end Go.Proofs.Ytmlhaikblfjghaa.S1
/- Seat 1: valid allocations. -/
namespace Go.Proofs.Ytmlhaikblfjghaa.S1
open Go Go.Ab Go.Proofs
theorem F58 : OkF 58 Try.f58 := ⟨by kernel_rfl, by kernel_rfl, by kernel_rfl⟩
def lv58 : List (List Nat × List Nat) := []
noncomputable def n58s (l : List Rg) : List Nat → Nat → Option Ans := scrAt [([1, 0], 1, Ans.eff (D.sl Heap.empty.nl 0 l.length) { box := upd Heap.empty.box Heap.empty.nl (some (Row.arr (l.length * 2) (cellsG 2 fun i => (l.getD i default).d))), nl := Heap.empty.nl + 1, hw := Heap.empty.hw, nt := Heap.empty.nt, vw := Heap.empty.vw : Heap }), ([1, 1, 0], 1, Ans.eff (.tup []) { box := upd (fun _ => none) 0 (some (Row.arr ((srt l).length * 2) (cellsG 2 fun i => ((srt l).getD i default).d))), nl := 1, hw := fun _ => none, nt := 0, vw := fun _ => none : Heap })]
theorem n58 (l : List Rg) (K : D → Heap → Prop) : runS (En Try.f58) (fh Try.f58 K) (n58s l) lv58 200 [.code []] ⟨argSlots 0 [L l 2 Rg.d], .empty⟩ =
  (Does PP 62 [L l 2 Rg.d] Heap.empty (D.sl Heap.empty.nl 0 l.length) { box := upd Heap.empty.box Heap.empty.nl (some (Row.arr (l.length * 2) (cellsG 2 fun i => (l.getD i default).d))), nl := Heap.empty.nl + 1, hw := Heap.empty.hw, nt := Heap.empty.nt, vw := Heap.empty.vw : Heap } ∧ Does PP 63 [D.sl 0 0 l.length, D.clo 64 []] { box := upd (fun _ => none) 0 (some (Row.arr (l.length * 2) (cellsG 2 fun i => (l.getD i default).d))), nl := 1, hw := fun _ => none, nt := 0, vw := fun _ => none : Heap } (.tup []) { box := upd (fun _ => none) 0 (some (Row.arr ((srt l).length * 2) (cellsG 2 fun i => ((srt l).getD i default).d))), nl := 1, hw := fun _ => none, nt := 0, vw := fun _ => none : Heap } ∧ K (D.sl 0 0 l.length) { box := upd (fun _ => none) 0 (some (Row.arr ((srt l).length * 2) (cellsG 2 fun i => ((srt l).getD i default).d))), nl := 1, hw := fun _ => none, nt := 0, vw := fun _ => none : Heap }) := by kernel_rfl
theorem c58 (l : List Rg) (hne : l ≠ []) (hl : l.length ≤ 1000000) : Pure PP 58 [L l 2 Rg.d] (L (srt l) 2 Rg.d) := by
  refine pr F58 (by kernel_rfl) (of_eq (n58 l _) ⟨e62 l _ hne hl, e63 l hne hl _ _ _ _ _ _, ⟨_, (RetLe.lay (sz := 2) (n := l.length) (get := fun i => Rg.d ((srt l).getD i default)) rfl (by rw [srt_len]; exact Nat.le_refl _) (ElemsOf.cells fun k _ => ⟨rfl, rfl, rfl⟩)).trans (RetLe.wk ?_ rfl)⟩⟩)
  rw [← srt_len]; exact Wk.refl _

def goOk (n at_ : Int) : List Rg → Bool
  | [] => true
  | x :: r => bif bif bif bif decide (x.frm < at_) then true else decide (x.cnt < 1) then true else decide (x.frm > n) then true else decide (x.cnt > subI .i64 n x.frm) then false else goOk n (addI .i64 x.frm x.cnt) r
def spV (n : Int) (l : List Rg) : Bool := bif bif decide (n < 0) then true else decide (n > 1024) then false else goOk n 0 (srt l)
theorem F44 : OkF 44 Try.f44 := ⟨by kernel_rfl, by kernel_rfl, by kernel_rfl⟩
def lv44 : List (List Nat × List Nat) := [([1, 1, 1, 0, 1, 0], [0, 5, 15, 16, 17])]
noncomputable def n44s (l : List Rg) : List Nat → Nat → Option Ans := scrAt [([1, 1, 1, 0, 0], 1, Ans.pure [L l 2 Rg.d] (L (srt l) 2 Rg.d))]
theorem n44 (n : Int) (l : List Rg) (K : D → Prop) : runS (En Try.f44) (fi Try.f44 K) (n44s l) lv44 200 [.code []] ⟨argSlots 0 [I n, L l 2 Rg.d], .empty⟩ =
  (bif bif decide (n < 0) then true else decide (n > 1024) then K (B false) else PureW PP 58 [L l 2 Rg.d] [L l 2 Rg.d] (L (srt l) 2 Rg.d) ∧ ((srt l).length ≤ lenM → At (En Try.f44) (fi Try.f44 K) [It.code [1, 1, 1, 0, 1, 0], It.blk 0, It.code [1, 1, 1, 1]] { sl := [(0, I n), (5, I 0), (15, L (srt l) 2 Rg.d), (16, I (↑(srt l).length : Int)), (17, I 0)], h := Heap.empty : St })) := by kernel_rfl
def S44 (n at_ : Int) (q : List Rg) (i : Int) : St := ⟨[(0, I n), (5, I at_), (15, L q 2 Rg.d), (16, I q.length), (17, I i)], .empty⟩
noncomputable def n44as  : List Nat → Nat → Option Ans := scrAt []
theorem n44a (n at_ : Int) (q : List Rg) (i : Int) (J : St → Prop) (K : D → Prop) : runS (En Try.f44) (fi Try.f44 K) (n44as ) lv44 200 [.code [1, 1, 1, 0, 1, 0, 0], stp [0, 5, 15, 16, 17] J, .blk 0, .code [1, 1, 1, 1]] (S44 n at_ q i) =
  (bif decide (i < (↑q.length : Int)) then (0 ≤ i ∧ i < (↑q.length : Int)) ∧ True ∧ bif bif bif bif decide ((q.getD i.toNat default).frm < at_) then true else decide ((q.getD i.toNat default).cnt < 1) then true else decide ((q.getD i.toNat default).frm > n) then true else decide ((q.getD i.toNat default).cnt > subI .i64 n (q.getD i.toNat default).frm) then K (B false) else J { sl := [(0, I n), (5, I (addI .i64 (q.getD i.toNat default).frm (q.getD i.toNat default).cnt)), (15, L q 2 Rg.d), (16, I (↑q.length : Int)), (17, I (addI .i64 i 1))], h := Heap.empty : St } else K (B true)) := by kernel_rfl
theorem c44 (n : Int) (l : List Rg) (hne : l ≠ []) (hl : l.length ≤ 1000000) : Pure PP 44 [I n, L l 2 Rg.d] (B (spV n l)) := by
  refine pu F44 (by kernel_rfl) (of_eq (n44 n l _) (cond_intro (fun h => by simp only [spV, h, cond_true]; exact Wk.refl _) fun h => ⟨PureW.mk (c58 l hne hl), fun hq => ?_⟩))
  have hs : spV n l = goOk n 0 (srt l) := by simp only [spV, h, cond_false]
  rw [hs]
  generalize srt l = q at hq ⊢
  refine lp (fn := Try.f44) (fun x : Nat × Int => x.1 ≤ q.length ∧ goOk n 0 q = goOk n x.2 (q.drop x.1)) (fun x => S44 n x.2 q x.1) (fun x => q.length - x.1) [0, 5, 15, 16, 17] (by kernel_rfl) (fun x hx => of_eq (n44a n x.2 q x.1 _ _) ?_) (0, 0) ⟨Nat.zero_le _, rfl⟩
  obtain ⟨i, at_⟩ := x
  obtain ⟨hi, he⟩ := hx
  simp only at hi he ⊢
  refine cond_intro (fun hlt => ?_) fun hge => ?_
  · have hlt := ltI hlt
    rw [add1 hlt hq, Int.toNat_natCast, he, drop_cons _ _ hlt]
    generalize q.getD i default = x
    refine ⟨⟨by omega, by omega⟩, trivial, cond_intro (fun h => ?_) fun h => ?_⟩
    · simp only [goOk, h, cond_true]; exact Wk.refl _
    · refine Nx.mk (i + 1, addI .i64 x.frm x.cnt) ⟨hlt, ?_⟩ (by simp only; omega)
      show goOk n at_ (x :: q.drop (i + 1)) = goOk n (addI .i64 x.frm x.cnt) (q.drop (i + 1))
      simp only [goOk, h, cond_false]
  · have := geI hge
    rw [he]
    simp only [List.drop_of_length_le this]
    exact Wk.refl _

/-! the law -/
theorem apart_symm {x y : Rg} (h : apart x y) : apart y x := fun k ⟨a, b⟩ => h k ⟨b, a⟩
theorem apart_of_le {x y : Rg} (h : x.frm + x.cnt ≤ y.frm) : apart x y := fun k ⟨a, b⟩ => by unfold hit at a b; omega
theorem le_of_apart {x y : Rg} (h : apart x y) (hxy : x.frm ≤ y.frm) (hy : 1 ≤ y.cnt) : x.frm + x.cnt ≤ y.frm := by
  have := h y.frm
  unfold hit at this
  omega
theorem goOk_iff {n : Int} (hn : n ≤ 1024) : ∀ (s : List Rg) (at_ : Int), 0 ≤ at_ → (s.Pairwise fun x y => x.frm ≤ y.frm) → (goOk n at_ s = true ↔ (∀ x ∈ s, at_ ≤ x.frm ∧ fitN n x) ∧ s.Pairwise apart)
  | [], _, _, _ => by simp [goOk]
  | x :: r, at_, h0, hs => by
    rw [List.pairwise_cons] at hs
    rw [goOk]
    cases hc : (bif bif bif decide (x.frm < at_) then true else decide (x.cnt < 1) then true else decide (x.frm > n) then true else decide (x.cnt > subI .i64 n x.frm)) with
    | true =>
      simp only [cond_true]
      refine ⟨fun h => (by cases h), fun ⟨h1, _⟩ => ?_⟩
      obtain ⟨a, b, c, d, e⟩ := h1 x (by simp)
      rw [sub64 (by omega) (by omega)] at hc
      simp at hc; omega
    | false =>
      simp only [cond_false]
      simp at hc
      obtain ⟨⟨⟨a, b⟩, c⟩, d⟩ := hc
      rw [sub64 (by omega) (by omega)] at d
      rw [add64 (by omega) (by omega), goOk_iff hn r (x.frm + x.cnt) (by omega) hs.2, List.pairwise_cons]
      constructor
      · rintro ⟨h1, h2⟩
        refine ⟨fun y hy => ?_, fun y hy => apart_of_le (h1 y hy).1, h2⟩
        rcases List.mem_cons.1 hy with rfl | hy
        · exact ⟨a, by omega, by omega, b, d⟩
        · exact ⟨by have := (h1 y hy).1; omega, (h1 y hy).2⟩
      · rintro ⟨h1, h2, h3⟩
        refine ⟨fun y hy => ⟨?_, (h1 y (List.mem_cons_of_mem _ hy)).2⟩, h3⟩
        exact le_of_apart (h2 y hy) (hs.1 y hy) (h1 y (List.mem_cons_of_mem _ hy)).2.2.2.1
theorem spV_iff (n : Int) (l : List Rg) : spV n l = true ↔ allocOk n l := by
  unfold spV allocOk
  cases hc : (bif decide (n < 0) then true else decide (n > 1024)) with
  | true =>
    simp only [cond_true]
    simp at hc
    exact ⟨fun h => (by cases h), fun ⟨a, b, _⟩ => by omega⟩
  | false =>
    simp only [cond_false]
    simp at hc
    obtain ⟨h1, h2⟩ := srt_spec l
    rw [goOk_iff (by omega) _ 0 (Int.le_refl _) h2, h1.pairwise_iff apart_symm]
    constructor
    · rintro ⟨a, b⟩; exact ⟨hc.1, hc.2, fun x hx => (a x (h1.mem_iff.2 hx)).2, b⟩
    · rintro ⟨_, _, a, b⟩
      exact ⟨fun x hx => ⟨(a x (h1.mem_iff.1 hx)).1, a x (h1.mem_iff.1 hx)⟩, b⟩
theorem marks_iff (n : Int) (l : List Rg) : (marks n l).2 = true ↔ allocOk n l := by
  unfold marks
  split
  · rename_i h; simp [h]
  · rename_i h; simp [h]
end Go.Proofs.Ytmlhaikblfjghaa.S1
/- Seat 1: valid directories. -/
namespace Go.Proofs.Ytmlhaikblfjghaa.S1
open Go Go.Ab Go.Proofs
theorem pw {P : Program} {f : Nat} {args args' : List D} {v : D} (h : Wks args args') (p : Ab.Pure P f args' v) : PureW P f args args' v := ⟨h, p⟩
theorem F27 : OkF 27 Try.f27 := ⟨by kernel_rfl, by kernel_rfl, by kernel_rfl⟩
def lv27 : List (List Nat × List Nat) := [([1, 1, 1, 0, 1, 0], [1, 3, 18, 19, 20])]
noncomputable def n27s (d : Dir) : List Nat → Nat → Option Ans := scrAt [([1, 0, 0], 2, Ans.pure [d.hdr.d] (B (fits d.hdr)))]
theorem n27 (d : Dir) (K : D → Prop) : runS (En Try.f27) (fi Try.f27 K) (n27s d) lv27 200 [.code []] ⟨argSlots 0 [d.d], .empty⟩ =
  (PureW PP 43 [d.hdr.d] [d.hdr.d] (B (fits d.hdr)) ∧ (((!!fits d.hdr) = true → d.blk.length ≤ lenM) → bif bif !fits d.hdr then true else decide ((↑d.blk.length : Int) > 32) then K (B false) else d.blk.length ≤ lenM → At (En Try.f27) (fi Try.f27 K) [It.code [1, 1, 1, 0, 1, 0], It.blk 0, It.code [1, 1, 1, 1]] { sl := [(1, .own [I d.hdr.sec, I d.hdr.len, I d.hdr.sum, L d.blk 7 Ent.d]), (3, I (-1)), (18, L d.blk 7 Ent.d), (19, I (↑d.blk.length : Int)), (20, I 0)], h := Heap.empty : St })) := by kernel_rfl
def S27 (d : Dir) (at_ i : Int) : St := ⟨[(1, .own [I d.hdr.sec, I d.hdr.len, I d.hdr.sum, L d.blk 7 Ent.d]), (3, I at_), (18, L d.blk 7 Ent.d), (19, I d.blk.length), (20, I i)], .empty⟩
noncomputable def n27as (d : Dir) (i : Int) : List Nat → Nat → Option Ans := scrAt [([1, 1, 1, 0, 1, 0, 0, 1, 1, 0, 0, 1, 1, 0, 0], 19, Ans.pure [(d.blk.getD i.toNat default).plc.d] (B (fits (d.blk.getD i.toNat default).plc))), ([1, 1, 1, 1, 0], 1, Ans.eff (Ab.LT (regs d) 2 Rg.d 0) (hT Heap.empty (regs d).length)), ([1, 1, 1, 1, 0], 5, Ans.pure [I 1024, L (regs d ++ [{ frm := 0, cnt := 4 : Rg }]) 2 Rg.d] (B (spV 1024 (regs d ++ [{ frm := 0, cnt := 4 : Rg }]))))]
theorem n27a (d : Dir) (at_ i : Int) (J : St → Prop) (K : D → Prop) : runS (En Try.f27) (fi Try.f27 K) (n27as d i) lv27 200 [.code [1, 1, 1, 0, 1, 0, 0], stp [1, 3, 18, 19, 20] J, .blk 0, .code [1, 1, 1, 1]] (S27 d at_ i) =
  (bif decide (i < (↑d.blk.length : Int)) then (0 ≤ i ∧ i < (↑d.blk.length : Int)) ∧ True ∧ ((!bif bif (d.blk.getD i.toNat default).frm != at_ then true else decide ((d.blk.getD i.toNat default).to ≤ (d.blk.getD i.toNat default).frm) then true else decide ((d.blk.getD i.toNat default).to > 1099511627776)) = true → PureW PP 43 [(d.blk.getD i.toNat default).plc.d] [(d.blk.getD i.toNat default).plc.d] (B (fits (d.blk.getD i.toNat default).plc))) ∧ bif bif bif bif bif bif bif bif (d.blk.getD i.toNat default).frm != at_ then true else decide ((d.blk.getD i.toNat default).to ≤ (d.blk.getD i.toNat default).frm) then true else decide ((d.blk.getD i.toNat default).to > 1099511627776) then true else !fits (d.blk.getD i.toNat default).plc then true else decide ((d.blk.getD i.toNat default).lvl < 0) then true else decide ((d.blk.getD i.toNat default).lvl > 2) then true else bif (d.blk.getD i.toNat default).lvl == 1 then bif decide ((d.blk.getD i.toNat default).stp < 1) then true else decide ((d.blk.getD i.toNat default).stp > 1099511627776) else false then true else bif !(d.blk.getD i.toNat default).lvl == 1 then (d.blk.getD i.toNat default).stp != 0 else false then K (B false) else J { sl := [(1, .own [I d.hdr.sec, I d.hdr.len, I d.hdr.sum, L d.blk 7 Ent.d]), (3, I (d.blk.getD i.toNat default).to), (18, L d.blk 7 Ent.d), (19, I (↑d.blk.length : Int)), (20, I (addI .i64 i 1))], h := Heap.empty : St }
 else Does PP 45 [.agg [I d.hdr.sec, I d.hdr.len, I d.hdr.sum, L d.blk 7 Ent.d]] Heap.empty (Ab.LT (regs d) 2 Rg.d 0) (hT Heap.empty (regs d).length) ∧ (upd (fun _ => none) 0 (some (regs d).length) 0 = some (regs d).length ∧ ((regs d).length + 1) * 16 ≤ roomM) ∧ PureW PP 44 [I 1024, .list ((regs d).length + 1) 2 (catG (regs d).length (fun i => ((regs d).getD i default).d) (litG [.agg [I 0, I 4]])) (.tok 0 2)] [I 1024, L (regs d ++ [{ frm := 0, cnt := 4 : Rg }]) 2 Rg.d] (B (spV 1024 (regs d ++ [{ frm := 0, cnt := 4 : Rg }]))) ∧ K (B (spV 1024 (regs d ++ [{ frm := 0, cnt := 4 : Rg }])))) := by kernel_rfl

/-- An entry behind time at_ that is not valid. -/
def entBad (at_ : Int) (x : Ent) : Bool :=
  bif bif bif bif bif bif bif x.frm != at_ then true else decide (x.to ≤ x.frm) then true else decide (x.to > 1099511627776) then true else !fits x.plc then true else decide (x.lvl < 0) then true else decide (x.lvl > 2) then true
    else bif x.lvl == 1 then bif decide (x.stp < 1) then true else decide (x.stp > 1099511627776) else false then true else bif !x.lvl == 1 then x.stp != 0 else false
def entP (at_ : Int) : List Ent → Bool
  | [] => true
  | x :: r => bif entBad at_ x then false else entP x.to r
def dirOk (d : Dir) : Bool := bif bif !fits d.hdr then true else decide ((d.blk.length : Int) > 32) then false else bif entP (-1) d.blk then spV 1024 (regs d ++ [⟨0, 4⟩]) else false
theorem c27 (d : Dir) : Pure PP 27 [d.d] (B (dirOk d)) := by
  refine pu F27 (by kernel_rfl) (of_eq (n27 d _) ⟨PureW.mk (c43 _), fun _ => cond_intro (fun h => by simp only [dirOk, h, cond_true]; exact Wk.refl _) fun h hl => ?_⟩)
  have hle : d.blk.length ≤ 32 := by simp at h; omega
  have hd : dirOk d = bif entP (-1) d.blk then spV 1024 (regs d ++ [⟨0, 4⟩]) else false := by simp only [dirOk, h, cond_false]
  rw [hd]
  refine lp (fn := Try.f27) (fun x : Nat × Int => x.1 ≤ d.blk.length ∧ entP (-1) d.blk = entP x.2 (d.blk.drop x.1)) (fun x => S27 d x.2 x.1) (fun x => d.blk.length - x.1) [1, 3, 18, 19, 20] (by kernel_rfl) (fun x hx => of_eq (n27a d x.2 x.1 _ _) ?_) (0, -1) ⟨Nat.zero_le _, rfl⟩
  obtain ⟨i, at_⟩ := x
  obtain ⟨hi, he⟩ := hx
  simp only at hi he ⊢
  refine cond_intro (fun hlt => ?_) fun hge => ?_
  · have hlt := ltI hlt
    rw [add1 hlt hl, Int.toNat_natCast, he, drop_cons _ _ hlt]
    generalize d.blk.getD i default = x
    refine ⟨⟨by omega, by omega⟩, trivial, fun _ => PureW.mk (c43 _), cond_intro (fun h => ?_) fun h => ?_⟩
    · have hb : entBad at_ x = true := h
      simp only [entP, hb, cond_true, cond_false]; exact Wk.refl _
    · have hb : entBad at_ x = false := h
      refine Nx.mk (i + 1, x.to) ⟨hlt, ?_⟩ (by simp only; omega)
      show entP at_ (x :: d.blk.drop (i + 1)) = entP x.to (d.blk.drop (i + 1))
      simp only [entP, hb, cond_false]
  · have := geI hge
    rw [he]
    simp only [List.drop_of_length_le this, entP, cond_true]
    refine ⟨e45 d (by omega), ⟨rfl, by simp [regs, roomM]; omega⟩, pw (Wks.cons (Wk.refl _) (Wks.cons (Wk.snocL (x := (⟨0, 4⟩ : Rg))) Wks.nil)) (c44 _ _ (by simp) (by simp [regs]; omega)), Wk.refl _⟩

/-! the law -/
theorem sect_pos {n : Int} (h : 1 ≤ n) (k : n ≤ 16384) : 1 ≤ sect n ∧ sect n ≤ 256 := by
  unfold sect
  have : decide (n < 1) = false := by simp; omega
  rw [this, cond_false, sub64 (by omega) (by omega)]
  have hq : quoI .i64 (n - 1) 64 = (n - 1) / 64 := by
    unfold quoI
    rw [Int.tdiv_eq_ediv_of_nonneg (by omega)]
    exact IntWalk.i64_in _ ⟨by omega, by omega⟩
  rw [hq, add64 (by omega) (by omega)]; omega
theorem fits_iff (x : Xt) : fits x = true ↔ 1 ≤ x.len ∧ x.len ≤ 16384 ∧ 0 ≤ x.sum ∧ x.sum < 4294967296 ∧ 4 ≤ x.sec ∧ x.sec < 1024 ∧ sect x.len ≤ 1024 - x.sec := by
  unfold fits
  simp
  constructor
  · rintro ⟨⟨⟨⟨⟨⟨a, b⟩, c⟩, d⟩, e⟩, f⟩, g⟩
    rw [sub64 (by omega) (by omega)] at g
    exact ⟨a, b, c, d, e, f, g⟩
  · rintro ⟨a, b, c, d, e, f, g⟩
    rw [sub64 (by omega) (by omega)]
    exact ⟨⟨⟨⟨⟨⟨a, b⟩, c⟩, d⟩, e⟩, f⟩, g⟩
theorem fitsR_iff (x : Xt) : (fitsR x).2 = true ↔ fits x = true := by
  rw [fits_iff]
  unfold fitsR
  cases hc : (bif bif bif bif bif decide (x.len < 1) then true else decide (x.len > 16384) then true else decide (x.sum < 0) then true else decide (x.sum ≥ 4294967296) then true else decide (x.sec < 4) then true else decide (x.sec > 1024)) with
  | true =>
    simp only [cond_true]
    simp at hc
    exact ⟨fun h => (by cases h), fun ⟨a, b, c, d, e, f, g⟩ => by omega⟩
  | false =>
    simp only [cond_false]
    simp at hc
    obtain ⟨⟨⟨⟨⟨a, b⟩, c⟩, d⟩, e⟩, f⟩ := hc
    have := sect_pos a b
    rw [add64 (by omega) (by omega)]
    simp
    omega
theorem fitsR_reg {x : Xt} (h : fits x = true) : (fitsR x).1 = regOf x := by
  rw [fits_iff] at h
  obtain ⟨a, b, c, d, e, f, g⟩ := h
  unfold fitsR
  have : (bif bif bif bif bif decide (x.len < 1) then true else decide (x.len > 16384) then true else decide (x.sum < 0) then true else decide (x.sum ≥ 4294967296) then true else decide (x.sec < 4) then true else decide (x.sec > 1024)) = false := by
    simp; omega
  rw [this]; rfl
theorem reg_fit {x : Xt} (h : fits x = true) : fitN 1024 (regOf x) ∧ 4 ≤ (regOf x).frm := by
  rw [fits_iff] at h
  obtain ⟨a, b, c, d, e, f, g⟩ := h
  have := sect_pos a b
  exact ⟨⟨by simp [regOf]; omega, f, this.1, g⟩, e⟩
theorem entP_iff : ∀ (l : List Ent) (at_ : Int), entP at_ l = true ↔ entOk at_ l = true ∧ ∀ e ∈ l, fits e.plc = true
  | [], _ => by simp [entP, entOk]
  | x :: r, at_ => by
    have ih := entP_iff r x.to
    unfold entP entOk
    have key : entBad at_ x = false ↔ fits x.plc = true ∧ (bif bif x.frm != at_ then true else decide (x.to ≤ x.frm) then true else decide (x.to > 1099511627776)) = false ∧
        (bif !bif bif x.lvl == 1 then decide (x.stp ≥ 1) else false then decide (x.stp ≤ 1099511627776) else false then bif bif x.lvl != 0 then x.lvl != 2 else false then true else x.stp != 0 else false) = false := by
      unfold entBad
      cases fits x.plc with
      | false => simp
      | true =>
        by_cases h1 : x.lvl = 1
        · simp [h1] <;> omega
        · simp [h1] <;> omega
    cases hb : entBad at_ x with
    | true =>
      simp only [cond_true]
      refine ⟨fun h => (by cases h), fun ⟨h1, h2⟩ => ?_⟩
      have hf := h2 x (by simp)
      have : entBad at_ x = false := by
        rw [key]
        refine ⟨hf, ?_, ?_⟩
        · cases h3 : (bif bif x.frm != at_ then true else decide (x.to ≤ x.frm) then true else decide (x.to > 1099511627776)) with
          | false => rfl
          | true => rw [h3] at h1; cases h1
        · cases h3 : (bif bif x.frm != at_ then true else decide (x.to ≤ x.frm) then true else decide (x.to > 1099511627776)) with
          | true => rw [h3] at h1; cases h1
          | false =>
            rw [h3, cond_false] at h1
            generalize (bif !bif bif x.lvl == 1 then decide (x.stp ≥ 1) else false then decide (x.stp ≤ 1099511627776) else false then bif bif x.lvl != 0 then x.lvl != 2 else false then true else x.stp != 0 else false) = q at h1 ⊢
            cases q with
            | false => rfl
            | true => cases h1
      rw [this] at hb; cases hb
    | false =>
      obtain ⟨h1, h2, h3⟩ := key.1 hb
      rw [h2, h3]
      simp only [cond_false, ih, List.mem_cons]
      exact ⟨fun ⟨a, b⟩ => ⟨a, fun e he => by rcases he with rfl | he; exact h1; exact b e he⟩, fun ⟨a, b⟩ => ⟨a, fun e he => b e (.inr he)⟩⟩
theorem okR_iff (d : Dir) : okR d = true ↔ fits d.hdr = true ∧ ∀ e ∈ d.blk, fits e.plc = true := by
  simp only [okR, Bool.and_eq_true, List.all_eq_true, fitsR_iff]
  exact ⟨fun ⟨a, b⟩ => ⟨b, a⟩, fun ⟨a, b⟩ => ⟨b, a⟩⟩
theorem regsR_eq {d : Dir} (h : fits d.hdr = true) (k : ∀ e ∈ d.blk, fits e.plc = true) : regsR d = regs d := by
  simp only [regsR, regs, fitsR_reg h, List.cons.injEq, true_and]
  exact List.map_congr_left fun e he => fitsR_reg (k e he)
theorem alloc_root {l : List Rg} (h : ∀ x ∈ l, fitN 1024 x ∧ 4 ≤ x.frm) : allocOk 1024 (l ++ [⟨0, 4⟩]) ↔ allocOk 1024 l := by
  unfold allocOk
  rw [List.pairwise_append]
  constructor
  · rintro ⟨a, b, c, d, _⟩; exact ⟨a, b, fun x hx => c x (by simp [hx]), d⟩
  · rintro ⟨a, b, c, d⟩
    refine ⟨a, b, fun x hx => ?_, d, by simp, fun x hx y hy => ?_⟩
    · rcases List.mem_append.1 hx with h1 | h1
      · exact c x h1
      · simp at h1; subst h1; exact ⟨by decide, by decide, by decide, by decide⟩
    · simp at hy; subst hy
      exact apart_symm (apart_of_le (by have := (h x hx).2; show (0 : Int) + 4 ≤ x.frm; omega))
theorem dirOk_eq (d : Dir) : dirOkR d = dirOk d := by
  rw [Bool.eq_iff_iff]
  unfold dirOkR dirOk
  cases hf : fits d.hdr with
  | false =>
    have : okR d = false := by
      cases h : okR d with
      | false => rfl
      | true => rw [okR_iff, hf] at h; cases h.1
    simp [this]
  | true =>
    by_cases hl : d.blk.length ≤ 32
    · have h1 : decide ((d.blk.length : Int) > 32) = false := by simp; omega
      simp only [hl, decide_true, Bool.true_and, h1, Bool.not_true, cond_false, Bool.and_eq_true]
      cases hp : entP (-1) d.blk with
      | false =>
        simp only [cond_false]
        refine ⟨fun ⟨⟨a, b⟩, c⟩ => ?_, fun h => (by cases h)⟩
        have : entP (-1) d.blk = true := (entP_iff _ _).2 ⟨c, ((okR_iff d).1 a).2⟩
        rw [hp] at this; cases this
      | true =>
        obtain ⟨e1, e2⟩ := (entP_iff _ _).1 hp
        simp only [cond_true, spV_iff, marks_iff, regsR_eq hf e2]
        rw [alloc_root]
        · exact ⟨fun ⟨⟨a, b⟩, c⟩ => b, fun h => ⟨⟨(okR_iff d).2 ⟨hf, e2⟩, h⟩, e1⟩⟩
        · intro x hx
          simp only [regs, List.mem_cons, List.mem_map] at hx
          rcases hx with rfl | ⟨e, he, rfl⟩
          · exact reg_fit hf
          · exact reg_fit (e2 e he)
    · have h1 : decide ((d.blk.length : Int) > 32) = true := by simp; omega
      simp [hl, h1]
end Go.Proofs.Ytmlhaikblfjghaa.S1
/- Seat 1: plans. -/
namespace Go.Proofs.Ytmlhaikblfjghaa.S1
open Go Go.Ab Go.Proofs
theorem F29 : OkF 29 Try.f29 := ⟨by kernel_rfl, by kernel_rfl, by kernel_rfl⟩
def lv29 : List (List Nat × List Nat) := []
def H28 (out : List Ent) : Heap := ⟨upd (fun _ => none) 0 (some (.lit [LT out 7 Ent.d 0])), 1, upd (fun _ => none) 0 (some out.length), 1, fun _ => none⟩
noncomputable def n29s  : List Nat → Nat → Option Ans := scrAt []
theorem n29 (i : Int) (e : Ent) (out : List Ent) (K : D → Heap → Prop) : runS (En Try.f29) (fh Try.f29 K) (n29s ) lv29 200 [.code []] ⟨argSlots 0 [I i, e.d, .bp 0 0], (H28 out)⟩ =
  ((upd (fun _ => none) 0 (some out.length) 0 = some out.length ∧ (out.length + 1) * 56 ≤ roomM) ∧ True ∧ K (B true) { box := upd (upd (fun _ => none) 0 (some (Row.lit [.list out.length 7 (fun i => (out.getD i default).d) (.tok 0 7)]))) 0 (some (Row.lit [.list (out.length + 1) 7 (catG out.length (fun i => (out.getD i default).d) (litG [.agg [I e.frm, I e.to, I e.lvl, I e.stp, I e.plc.sec, I e.plc.len, I e.plc.sum]])) (.tok 0 7)])), nl := 1, hw := upd (upd (fun _ => none) 0 (some out.length)) 0 (some (out.length + 1)), nt := 1, vw := fun _ => none : Heap }) := by kernel_rfl
theorem e29 (i : Int) (e : Ent) (out : List Ent) (h : out.length ≤ 1000000) : Does PP 29 [I i, e.d, .bp 0 0] (H28 out) (B true) (H28 (out ++ [e])) := by
  refine du F29 (by kernel_rfl) (of_eq (n29 i e out _) ⟨⟨rfl, by unfold roomM; omega⟩, trivial, RetLe.of (Wk.refl _) ?_⟩)
  rw [upd_upd, upd_upd, show H28 (out ++ [e]) = ⟨upd (fun _ => none) 0 (some (.lit [LT (out ++ [e]) 7 Ent.d 0])), 1, upd (fun _ => none) 0 (some (out.length + 1)), 1, fun _ => none⟩ by simp [H28]]
  exact HeapLe.row (.lit (Wks.cons Wk.snoc Wks.nil))
theorem F28 : OkF 28 Try.f28 := ⟨by kernel_rfl, by kernel_rfl, by kernel_rfl⟩
def lv28 : List (List Nat × List Nat) := [([1, 1, 1, 0], [2, 3, 6, 21, 22, 23])]
noncomputable def n28s (d : Dir) : List Nat → Nat → Option Ans := scrAt [([1, 0], 1, Ans.pure [d.d] (I (endOf d)))]
theorem n28 (p : Pol) (d : Dir) (out : List Ent) (K : D → Heap → Prop) : runS (En Try.f28) (fh Try.f28 K) (n28s d) lv28 200 [.code []] ⟨argSlots 0 [p.d, d.d, .clo 29 [.bp 0 0]], (H28 out)⟩ =
  (PureW PP 46 [d.d] [d.d] (I (endOf d)) ∧ (d.blk.length ≤ lenM → ((0 : Int) ≤ 0 ∧ (0 ≤ if 0 > subI .i64 (↑d.blk.length : Int) 1 then 0 else subI .i64 (↑d.blk.length : Int) 1) ∧ (if 0 > subI .i64 (↑d.blk.length : Int) 1 then 0 else subI .i64 (↑d.blk.length : Int) 1) ≤ (↑d.blk.length : Int)) ∧ ((if 0 > subI .i64 (↑d.blk.length : Int) 1 then 0 else subI .i64 (↑d.blk.length : Int) 1).toNat - 0 ≤ lenM → At (En Try.f28) (fh Try.f28 K) [It.code [1, 1, 1, 0], It.blk 0] { sl := [(2, D.clo 29 [D.bp 0 0]), (3, .own [I p.full, I p.smp, I p.stp]), (6, I (endOf d)), (21, .list ((if 0 > subI .i64 (↑d.blk.length : Int) 1 then 0 else subI .i64 (↑d.blk.length : Int) 1).toNat - 0) 7 (dropG (fun i => (d.blk.getD i default).d) 0) .none), (22, I (↑((if 0 > subI .i64 (↑d.blk.length : Int) 1 then 0 else subI .i64 (↑d.blk.length : Int) 1).toNat - 0) : Int)), (23, I 0)], h := { box := upd (fun _ => none) 0 (some (Row.lit [.list out.length 7 (fun i => (out.getD i default).d) (.tok 0 7)])), nl := 1, hw := upd (fun _ => none) 0 (some out.length), nt := 1, vw := fun _ => none : Heap } : St }))) := by kernel_rfl
def S28 (p : Pol) (en : Int) (q : List Ent) (out : List Ent) (i : Int) : St := ⟨[(2, .clo 29 [.bp 0 0]), (3, .own [I p.full, I p.smp, I p.stp]), (6, I en), (21, L q 7 Ent.d), (22, I q.length), (23, I i)], H28 out⟩
noncomputable def n28as (p : Pol) (en : Int) (q : List Ent) (out : List Ent) (i : Int) : List Nat → Nat → Option Ans := scrAt [([1, 1, 1, 0, 0, 1, 1, 0, 0, 1, 0], 3, Ans.pure [p.d, (q.getD i.toNat default).d, I en] (.tup [I (level p (q.getD i.toNat default) en).fst, I (level p (q.getD i.toNat default) en).snd])), ([1, 1, 1, 0, 0, 1, 1, 0, 0, 1, 1, 1, 1, 1, 1, 0], 3, Ans.eff (B true) (H28 (out ++ [{ frm := (q.getD i.toNat default).frm, to := (q.getD i.toNat default).to, lvl := (level p (q.getD i.toNat default) en).fst, stp := (level p (q.getD i.toNat default) en).snd, plc := (q.getD i.toNat default).plc : Ent }])))]
theorem n28a (p : Pol) (en : Int) (q : List Ent) (out : List Ent) (i : Int) (J : St → Prop) (K : D → Heap → Prop) : runS (En Try.f28) (fh Try.f28 K) (n28as p en q out i) lv28 200 [.code [1, 1, 1, 0, 0], stp [2, 3, 6, 21, 22, 23] J, .blk 0] (S28 p en q out i) =
  (bif decide (i < (↑q.length : Int)) then
  (0 ≤ i ∧ i < (↑q.length : Int)) ∧
    True ∧
      PureW PP 9 [p.d, (q.getD i.toNat default).d, I en] [p.d, (q.getD i.toNat default).d, I en] (.tup [I (level p (q.getD i.toNat default) en).fst, I (level p (q.getD i.toNat default) en).snd]) ∧
        bif (q.getD i.toNat default).lvl == 1 then
          ((!(level p (q.getD i.toNat default) en).fst == 2 && bif (level p (q.getD i.toNat default) en).fst == 1 then decide ((level p (q.getD i.toNat default) en).snd > (q.getD i.toNat default).stp) else false) = true → (q.getD i.toNat default).stp ≠ 0) ∧
            bif !bif (level p (q.getD i.toNat default) en).fst == 2 then true else bif bif (level p (q.getD i.toNat default) en).fst == 1 then decide ((level p (q.getD i.toNat default) en).snd > (q.getD i.toNat default).stp) else false then (level p (q.getD i.toNat default) en).snd.tmod (q.getD i.toNat default).stp == 0 else false then J { sl := [(2, D.clo 29 [D.bp 0 0]), (3, .own [I p.full, I p.smp, I p.stp]), (6, I en), (21, L q 7 Ent.d), (22, I (↑q.length : Int)), (23, I (addI .i64 i 1))], h := { box := upd (fun _ => none) 0 (some (Row.lit [.list out.length 7 (fun i => (out.getD i default).d) (.tok 0 7)])), nl := 1, hw := upd (fun _ => none) 0 (some out.length), nt := 1, vw := fun _ => none : Heap } : St }
            else
              True ∧
                True ∧
                  Does PP 29 [I i, .agg [I (q.getD i.toNat default).frm, I (q.getD i.toNat default).to, I (level p (q.getD i.toNat default) en).fst, I (level p (q.getD i.toNat default) en).snd, I (q.getD i.toNat default).plc.sec, I (q.getD i.toNat default).plc.len, I (q.getD i.toNat default).plc.sum], D.bp 0 0] { box := upd (fun _ => none) 0 (some (Row.lit [.list out.length 7 (fun i => (out.getD i default).d) (.tok 0 7)])), nl := 1, hw := upd (fun _ => none) 0 (some out.length), nt := 1, vw := fun _ => none : Heap } (B true) (H28 (out ++ [{ frm := (q.getD i.toNat default).frm, to := (q.getD i.toNat default).to, lvl := (level p (q.getD i.toNat default) en).fst, stp := (level p (q.getD i.toNat default) en).snd, plc := (q.getD i.toNat default).plc : Ent }])) ∧
                    J { sl := [(2, D.clo 29 [D.bp 0 0]), (3, .own [I p.full, I p.smp, I p.stp]), (6, I en), (21, L q 7 Ent.d), (22, I (↑q.length : Int)), (23, I (addI .i64 i 1))], h := { box := upd (fun _ => none) 0 (some (Row.lit [.list (out ++ [{ frm := (q.getD i.toNat default).frm, to := (q.getD i.toNat default).to, lvl := (level p (q.getD i.toNat default) en).fst, stp := (level p (q.getD i.toNat default) en).snd, plc := (q.getD i.toNat default).plc : Ent }]).length 7 (fun i_1 => ((out ++ [{ frm := (q.getD i.toNat default).frm, to := (q.getD i.toNat default).to, lvl := (level p (q.getD i.toNat default) en).fst, stp := (level p (q.getD i.toNat default) en).snd, plc := (q.getD i.toNat default).plc : Ent }]).getD i_1 default).d) (.tok 0 7)])), nl := 1, hw := upd (fun _ => none) 0 (some (out ++ [{ frm := (q.getD i.toNat default).frm, to := (q.getD i.toNat default).to, lvl := (level p (q.getD i.toNat default) en).fst, stp := (level p (q.getD i.toNat default) en).snd, plc := (q.getD i.toNat default).plc : Ent }]).length), nt := 1, vw := fun _ => none : Heap } : St }
        else
          bif !bif (q.getD i.toNat default).lvl == 0 then (level p (q.getD i.toNat default) en).fst != 0 else false then J { sl := [(2, D.clo 29 [D.bp 0 0]), (3, .own [I p.full, I p.smp, I p.stp]), (6, I en), (21, L q 7 Ent.d), (22, I (↑q.length : Int)), (23, I (addI .i64 i 1))], h := { box := upd (fun _ => none) 0 (some (Row.lit [.list out.length 7 (fun i => (out.getD i default).d) (.tok 0 7)])), nl := 1, hw := upd (fun _ => none) 0 (some out.length), nt := 1, vw := fun _ => none : Heap } : St }
          else
            True ∧
              True ∧
                Does PP 29 [I i, .agg [I (q.getD i.toNat default).frm, I (q.getD i.toNat default).to, I (level p (q.getD i.toNat default) en).fst, I (level p (q.getD i.toNat default) en).snd, I (q.getD i.toNat default).plc.sec, I (q.getD i.toNat default).plc.len, I (q.getD i.toNat default).plc.sum], D.bp 0 0] { box := upd (fun _ => none) 0 (some (Row.lit [.list out.length 7 (fun i => (out.getD i default).d) (.tok 0 7)])), nl := 1, hw := upd (fun _ => none) 0 (some out.length), nt := 1, vw := fun _ => none : Heap } (B true) (H28 (out ++ [{ frm := (q.getD i.toNat default).frm, to := (q.getD i.toNat default).to, lvl := (level p (q.getD i.toNat default) en).fst, stp := (level p (q.getD i.toNat default) en).snd, plc := (q.getD i.toNat default).plc : Ent }])) ∧
                  J { sl := [(2, D.clo 29 [D.bp 0 0]), (3, .own [I p.full, I p.smp, I p.stp]), (6, I en), (21, L q 7 Ent.d), (22, I (↑q.length : Int)), (23, I (addI .i64 i 1))], h := { box := upd (fun _ => none) 0 (some (Row.lit [.list (out ++ [{ frm := (q.getD i.toNat default).frm, to := (q.getD i.toNat default).to, lvl := (level p (q.getD i.toNat default) en).fst, stp := (level p (q.getD i.toNat default) en).snd, plc := (q.getD i.toNat default).plc : Ent }]).length 7 (fun i_1 => ((out ++ [{ frm := (q.getD i.toNat default).frm, to := (q.getD i.toNat default).to, lvl := (level p (q.getD i.toNat default) en).fst, stp := (level p (q.getD i.toNat default) en).snd, plc := (q.getD i.toNat default).plc : Ent }]).getD i_1 default).d) (.tok 0 7)])), nl := 1, hw := upd (fun _ => none) 0 (some (out ++ [{ frm := (q.getD i.toNat default).frm, to := (q.getD i.toNat default).to, lvl := (level p (q.getD i.toNat default) en).fst, stp := (level p (q.getD i.toNat default) en).snd, plc := (q.getD i.toNat default).plc : Ent }]).length), nt := 1, vw := fun _ => none : Heap } : St }
 else K (.tup []) { box := upd (fun _ => none) 0 (some (Row.lit [.list out.length 7 (fun i => (out.getD i default).d) (.tok 0 7)])), nl := 1, hw := upd (fun _ => none) 0 (some out.length), nt := 1, vw := fun _ => none : Heap }) := by kernel_rfl

def thinB (p : Pol) (en : Int) (e : Ent) : Bool :=
  bif e.lvl == 1 then bif (level p e en).1 == 2 then true else bif bif (level p e en).1 == 1 then decide ((level p e en).2 > e.stp) else false then (level p e en).2.tmod e.stp == 0 else false
  else bif e.lvl == 0 then (level p e en).1 != 0 else false
def thinE (p : Pol) (en : Int) (e : Ent) : Ent := ⟨e.frm, e.to, (level p e en).1, (level p e en).2, e.plc⟩
def planL (p : Pol) (en : Int) (q : List Ent) : List Ent := (q.filter (thinB p en)).map (thinE p en)
theorem planL_snoc (p : Pol) (en : Int) (q : List Ent) (x : Ent) : planL p en (q ++ [x]) = planL p en q ++ if thinB p en x then [thinE p en x] else [] := by
  simp only [planL, List.filter_append, List.map_append, List.filter_cons, List.filter_nil]
  split <;> rfl
theorem planL_len (p : Pol) (en : Int) (q : List Ent) : (planL p en q).length ≤ q.length := by
  simp only [planL, List.length_map]; exact List.length_filter_le _ _
theorem e28 (p : Pol) (d : Dir) (hm : d.blk.length ≤ 1000) (hv : ∀ e ∈ d.blk, e.lvl = 1 → e.stp ≠ 0) :
    Does PP 28 [p.d, d.d, .clo 29 [.bp 0 0]] (H28 []) (.tup []) (H28 (planL p (endOf d) (d.blk.take (d.blk.length - 1)))) := by
  refine du F28 (by kernel_rfl) (of_eq (n28 p d [] _) ⟨PureW.mk (c46 _), fun hl => ?_⟩)
  have hX : (if 0 > subI .i64 (d.blk.length : Int) 1 then 0 else subI .i64 (d.blk.length : Int) 1) = ((d.blk.length - 1 : Nat) : Int) := by
    rw [sub64 (by omega) (by omega)]; split <;> omega
  rw [hX]
  simp only [Int.toNat_natCast, Nat.sub_zero]
  refine ⟨⟨Int.le_refl _, by omega, by omega⟩, fun _ => ?_⟩
  have hq : (d.blk.take (d.blk.length - 1)).length = d.blk.length - 1 := by simp
  have hqm : ∀ x ∈ d.blk.take (d.blk.length - 1), x ∈ d.blk := fun x hx => List.mem_of_mem_take hx
  have hqg : ∀ i, i < (d.blk.take (d.blk.length - 1)).length → (dropG (fun i => Ent.d (d.blk.getD i default)) 0) i = Ent.d ((d.blk.take (d.blk.length - 1)).getD i default) := fun i hi => by
    simp only [dropG, Nat.zero_add]
    rw [getD_list hi, List.getElem_take, getD_list (by omega)]
  generalize d.blk.take (d.blk.length - 1) = q at hq hqm hqg ⊢
  rw [← hq]
  refine at_le (st' := S28 p (endOf d) q (planL p (endOf d) (q.take 0)) (0 : Nat)) ?_ (StLe.set 21 rfl (Wk.list rfl (.inl rfl) hqg (.inl rfl)) rfl rfl)
  generalize endOf d = en
  refine lp (fn := Try.f28) (fun i : Nat => i ≤ q.length) (fun i => S28 p en q (planL p en (q.take i)) i) (fun i => q.length - i) [2, 3, 6, 21, 22, 23] (by kernel_rfl) (fun i hi => of_eq (n28a p en q _ i _ _) (cond_intro (fun hlt => ?_) fun hge => ?_)) 0 (Nat.zero_le _)
  · have hlt := ltI hlt
    rw [Int.toNat_natCast, add1 hlt (by unfold lenM; omega)]
    have hs := planL_snoc p en (q.take i) (q.getD i default)
    rw [← take_snoc _ _ hlt] at hs
    have hmem := hqm _ (getD_mem hlt)
    have hlen := planL_len p en (q.take i)
    have hlen2 : (q.take i).length ≤ i := by simp; omega
    generalize q.getD i default = x at hs hmem ⊢
    refine ⟨⟨by omega, by omega⟩, trivial, PureW.mk (c9 _ _ _), cond_intro (fun h1 => ⟨fun _ => hv x hmem (by simpa using h1), cond_intro (fun h2 => ?_) fun h2 => ⟨trivial, trivial, e29 _ _ _ (by omega), ?_⟩⟩) fun h1 => cond_intro (fun h2 => ?_) fun h2 => ⟨trivial, trivial, e29 _ _ _ (by omega), ?_⟩⟩
    · have ht : thinB p en x = false := by simp only [thinB, h1, cond_true]; exact (Bool.not_eq_true' _).mp h2
      rw [ht] at hs
      refine Nx.of (i + 1) (by omega) (by omega) ?_
      rw [hs]; simp only [Bool.false_eq_true, if_false, List.append_nil]; exact StLe.refl _ _
    · have ht : thinB p en x = true := by simp only [thinB, h1, cond_true]; exact (Bool.not_eq_false' _).mp h2
      rw [ht] at hs
      refine Nx.of (i + 1) (by omega) (by omega) ?_
      rw [hs]; exact StLe.refl _ _
    · have ht : thinB p en x = false := by simp only [thinB, h1, cond_false]; exact (Bool.not_eq_true' _).mp h2
      rw [ht] at hs
      refine Nx.of (i + 1) (by omega) (by omega) ?_
      rw [hs]; simp only [Bool.false_eq_true, if_false, List.append_nil]; exact StLe.refl _ _
    · have ht : thinB p en x = true := by simp only [thinB, h1, cond_false]; exact (Bool.not_eq_false' _).mp h2
      rw [ht] at hs
      refine Nx.of (i + 1) (by omega) (by omega) ?_
      rw [hs]; exact StLe.refl _ _
  · have := geI hge
    rw [List.take_of_length_le this]
    exact RetLe.refl _ _

theorem F14 : OkF 14 Try.f14 := ⟨by kernel_rfl, by kernel_rfl, by kernel_rfl⟩
def lv14 : List (List Nat × List Nat) := [([1, 1, 1, 0], [2, 3, 5])]
noncomputable def n14s (p : Pol) (d : Dir) : List Nat → Nat → Option Ans := scrAt [([1, 0, 0], 1, Ans.pure [p.d] (B (polOk p))), ([1, 0, 0], 5, Ans.pure [d.d] (B (dirOk d)))]
theorem n14 (p : Pol) (d : Dir) (K : D → Heap → Prop) : runS (EnX [5] Try.f14) (fh Try.f14 K) (n14s p d) lv14 200 [.code []] ⟨argSlots 0 [p.d, d.d], .empty⟩ =
  (PureW PP 11 [p.d] [p.d] (B (polOk p)) ∧ ((!!polOk p) = true → PureW PP 27 [d.d] [d.d] (B (dirOk d))) ∧ bif bif !polOk p then true else !dirOk d then K (.list 0 0 (fun _ => D.junk) .full) Heap.empty else True ∧ At (EnX [5] Try.f14) (fh Try.f14 K) [It.code [1, 1, 1, 0], It.code [1, 1, 1, 1]] { sl := [(2, .own [I p.full, I p.smp, I p.stp]), (3, .own [I d.hdr.sec, I d.hdr.len, I d.hdr.sum, L d.blk 7 Ent.d]), (5, D.bp 0 0)], h := { box := upd (fun _ => none) 0 (some (Row.lit [.list 0 0 (fun _ => D.junk) .full])), nl := 0 + 1, hw := fun _ => none, nt := 0, vw := fun _ => none : Heap } : St }) := by kernel_rfl
def S14 (p : Pol) (d : Dir) : St := ⟨[(2, .own [I p.full, I p.smp, I p.stp]), (3, .own [I d.hdr.sec, I d.hdr.len, I d.hdr.sum, L d.blk 7 Ent.d]), (5, .bp 0 0)], H28 []⟩
noncomputable def n14as (p : Pol) (d : Dir) : List Nat → Nat → Option Ans := scrAt [([1, 1, 1, 0], 3, Ans.eff (.tup []) (H28 (planL p (endOf d) (List.take (d.blk.length - 1) d.blk))))]
theorem n14a (p : Pol) (d : Dir) (K : D → Heap → Prop) : runS (EnX [5] Try.f14) (fh Try.f14 K) (n14as p d) nolv 200 [.code [1, 1, 1, 0], .code [1, 1, 1, 1]] (S14 p d) =
  (Does PP 28 [.agg [I p.full, I p.smp, I p.stp], .agg [I d.hdr.sec, I d.hdr.len, I d.hdr.sum, L d.blk 7 Ent.d], D.clo 29 [D.bp 0 0]] { box := upd (fun _ => none) 0 (some (Row.lit [.list 0 7 (fun i => Ent.d (List.getD [] i default)) (.tok 0 7)])), nl := 1, hw := upd (fun _ => none) 0 (some 0), nt := 1, vw := fun _ => none : Heap } (.tup []) (H28 (planL p (endOf d) (List.take (List.length d.blk - 1) d.blk))) ∧ K (.list (List.length (planL p (endOf d) (List.take (List.length d.blk - 1) d.blk))) 7 (fun i => Ent.d (List.getD (planL p (endOf d) (List.take (List.length d.blk - 1) d.blk)) i default)) (.tok 0 7)) { box := upd (fun _ => none) 0 (some (Row.lit [.list (List.length (planL p (endOf d) (List.take (List.length d.blk - 1) d.blk))) 7 (fun i => Ent.d (List.getD (planL p (endOf d) (List.take (List.length d.blk - 1) d.blk)) i default)) (.tok 0 7)])), nl := 1, hw := upd (fun _ => none) 0 (some (List.length (planL p (endOf d) (List.take (List.length d.blk - 1) d.blk)))), nt := 1, vw := fun _ => none : Heap }) := by kernel_rfl
theorem dirOk_len {d : Dir} (h : dirOk d = true) : d.blk.length ≤ 32 := by
  unfold dirOk at h
  cases hc : (bif !fits d.hdr then true else decide ((d.blk.length : Int) > 32)) with
  | true => rw [hc] at h; cases h
  | false => simp at hc; omega
theorem entP_stp : ∀ (l : List Ent) (at_ : Int), entP at_ l = true → ∀ e ∈ l, e.lvl = 1 → e.stp ≠ 0
  | [], _, _ => fun e he => by cases he
  | x :: r, at_, h => by
    unfold entP at h
    cases hb : entBad at_ x with
    | true => rw [hb] at h; cases h
    | false =>
      rw [hb, cond_false] at h
      intro e he h1
      rcases List.mem_cons.1 he with rfl | he
      · intro h0
        unfold entBad at hb
        simp [h1, h0] at hb
      · exact entP_stp r x.to h e he h1
theorem dirOk_stp {d : Dir} (h : dirOk d = true) : ∀ e ∈ d.blk, e.lvl = 1 → e.stp ≠ 0 := by
  unfold dirOk at h
  cases hc : (bif !fits d.hdr then true else decide ((d.blk.length : Int) > 32)) with
  | true => rw [hc] at h; cases h
  | false =>
    rw [hc, cond_false] at h
    cases hp : entP (-1) d.blk with
    | false => rw [hp] at h; cases h
    | true => exact entP_stp _ _ hp
def plan (p : Pol) (d : Dir) : List Ent := bif bif !polOk p then true else !dirOk d then [] else planL p (endOf d) (d.blk.take (d.blk.length - 1))
theorem c14 (p : Pol) (d : Dir) : Pure PP 14 [p.d, d.d] (L (plan p d) 7 Ent.d) := by
  refine pr F14 (by kernel_rfl) (of_eq (n14 p d _) ⟨PureW.mk (c11 _), fun _ => PureW.mk (c27 _), cond_intro (fun h => ?_) fun h => ⟨trivial, ?_⟩⟩)
  · simp only [plan, h, cond_true]; exact ⟨_, RetLe.wk Wk.nilL rfl⟩
  · have hd : dirOk d = true := by
      cases h1 : polOk p <;> cases h2 : dirOk d <;> simp_all
    simp only [plan, h, cond_false]
    refine at_le ?_ (StLe.tokBox _ (es := ([] : List Ent)) (enc := Ent.d) (sz' := 7) rfl (.inl rfl))
    have hle := dirOk_len hd
    exact runS_sound hmix 200 _ _ (of_eq (n14a p d _) ⟨e28 p d (by omega) (dirOk_stp hd), _, RetLe.wk Wk.tokL rfl⟩)

theorem c30' (d : Dir) : Pure PP 30 [d.d] (B (dirOk d)) := by rw [← dirOk_eq]; exact c30 d

end Go.Proofs.Ytmlhaikblfjghaa.S1
