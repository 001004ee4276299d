/- Seat 1: the laws' types as Lean data; words for contracts. -/
import Derived.Test.YtmlhaikblfjghaaA38
import Derived.Test.YtmlhaikblfjghaaChecked
namespace Go.Proofs.Ytmlhaikblfjghaa.S1
open Go Go.Ab Go.Proofs Go.Proofs.Ytmlhaikblfjghaa

def cfg0 : Cfg := ⟨fun _ => false⟩
noncomputable abbrev PP : Program := Try.prog
noncomputable abbrev EnC (c : Cfg) (f : Func) : Env := ⟨Try.prog, c, f.body.getD .skip, f.ntmps⟩
noncomputable abbrev En (f : Func) : Env := EnC cfg0 f
def cfgX (l : List Nat) : Cfg := ⟨fun d => l.any (Nat.beq d)⟩
/-- A function some of whose boxes lie in the heap. -/
noncomputable abbrev EnX (l : List Nat) (f : Func) : Env := EnC (cfgX l) f
noncomputable abbrev fi (f : Func) (K : D → Prop) : St → Prop := finK Try.prog f.results.toList fun d _ => K d
noncomputable abbrev fh (f : Func) (K : D → Heap → Prop) : St → Prop := finK Try.prog f.results.toList K
def nolv : List (List Nat × List Nat) := []
abbrev stp (l : List Nat) (J : St → Prop) : It := .stop fun st => J (keepSt l st)

theorem hmix : Try.prog.follows .mixedOrders = true := by kernel_rfl

class DD (d : D) : Prop where
  p : Ab.Data d
class DS (ds : List D) : Prop where
  p : Datas ds
instance : DS [] := ⟨trivial⟩
instance {d : D} {ds : List D} [h : DD d] [k : DS ds] : DS (d :: ds) := ⟨h.p, k.p⟩
instance {n : Int} {k : IntKind} : DD (.int k n) := ⟨trivial⟩
instance {b : Bool} : DD (.bool b) := ⟨trivial⟩
instance {s : List UInt8} : DD (.str s) := ⟨trivial⟩
instance {ds : List D} [h : DS ds] : DD (.agg ds) := ⟨h.p⟩
instance {ds : List D} [h : DS ds] : DD (.tup ds) := ⟨h.p⟩
instance {f : Nat} {ds : List D} [h : DS ds] : DD (.clo f ds) := ⟨h.p⟩
instance {α : Type} [Inhabited α] {es : List α} {sz : Nat} {enc : α → D} [h : ∀ x, DD (enc x)] : DD (L es sz enc) := ⟨L.data fun x => (h x).p⟩

structure Pol where (full smp stp : Int) deriving Inhabited
def Pol.d (x : Pol) : D := .agg [I x.full, I x.smp, I x.stp]
structure Xt where (sec len sum : Int) deriving Inhabited, DecidableEq
def Xt.d (x : Xt) : D := .agg [I x.sec, I x.len, I x.sum]
structure Ent where (frm to lvl stp : Int) (plc : Xt) deriving Inhabited, DecidableEq
def Ent.d (x : Ent) : D := .agg [I x.frm, I x.to, I x.lvl, I x.stp, I x.plc.sec, I x.plc.len, I x.plc.sum]
structure Dir where (hdr : Xt) (blk : List Ent) deriving Inhabited
def Dir.d (x : Dir) : D := .agg [I x.hdr.sec, I x.hdr.len, I x.hdr.sum, L x.blk 7 Ent.d]
structure Rg where (frm cnt : Int) deriving Inhabited, DecidableEq
def Rg.d (x : Rg) : D := .agg [I x.frm, I x.cnt]
instance {x : Pol} : DD x.d := inferInstanceAs (DD (.agg _))
instance {x : Xt} : DD x.d := inferInstanceAs (DD (.agg _))
instance {x : Ent} : DD x.d := inferInstanceAs (DD (.agg _))
instance {x : Dir} : DD x.d := inferInstanceAs (DD (.agg _))
instance {x : Rg} : DD x.d := inferInstanceAs (DD (.agg _))

/-- Function f of the program, whole. -/
structure OkF (f : Nat) (fn : Func) : Prop where
  hf : PP.funcs[f]? = some fn
  hb : fn.body = some (fn.body.getD .skip)
  hn : (fn.name == "runtime.NumGoroutine") = false

theorem pu {f : Nat} {fn : Func} (o : OkF f fn) {args : List D} {v : D} [da : DS args] [dv : DD v] (hn : Nat.ble args.length fn.ntmps = true) {cfg : Cfg} {sc : List Nat → Nat → Option Ans} {lv : List (List Nat × List Nat)} {N : Nat}
    (hr : runS (EnC cfg fn) (fi fn fun d => Wk d v) sc lv N [.code []] ⟨argSlots 0 args, .empty⟩) : Pure PP f args v := pure_of_runS hmix o.hf o.hb o.hn da.p dv.p hn hr

theorem du {f : Nat} {fn : Func} (o : OkF f fn) {args : List D} {v : D} {h h' : Heap} (hn : Nat.ble args.length fn.ntmps = true) {cfg : Cfg} {sc : List Nat → Nat → Option Ans} {lv : List (List Nat × List Nat)} {N : Nat}
    (hr : runS (EnC cfg fn) (fh fn fun d h'' => RetLe d h'' v h') sc lv N [.code []] ⟨argSlots 0 args, h⟩) : Does PP f args h v h' := Does.of_call (callA_of_runS hmix o.hf o.hb o.hn hn hr)

theorem pr {f : Nat} {fn : Func} (o : OkF f fn) {args : List D} {v : D} [da : DS args] [dv : DD v] (hn : Nat.ble args.length fn.ntmps = true) {cfg : Cfg} {sc : List Nat → Nat → Option Ans} {lv : List (List Nat × List Nat)} {N : Nat}
    (hr : runS (EnC cfg fn) (fh fn fun d h => ∃ h', RetLe d h v h') sc lv N [.code []] ⟨argSlots 0 args, .empty⟩) : Pure PP f args v := pure_of_runR hmix o.hf o.hb o.hn da.p dv.p hn hr

def isLoop : Option Code → Bool
  | some (.loop _) => true
  | _ => false

/-- A loop of fn at p: I: what holds of what turns; S: the slots; μ: the measure; l: the slots that count. -/
theorem lp {fn : Func} {cfg : Cfg} {fin : St → Prop} {α : Type} (I : α → Prop) (S : α → St) (μ : α → Nat) (l : List Nat) {p : List Nat} {td : List It} (hs : isLoop (sub (EnC cfg fn).root p) = true) {N : Nat} {sc : α → List Nat → Nat → Option Ans} {lv : List (List Nat × List Nat)}
    (hr : ∀ x, I x → runS (EnC cfg fn) fin (sc x) lv N (.code (p ++ [0]) :: stp l (Nx (EnC cfg fn).nt I S μ (μ x)) :: td) (S x)) (x : α) (hx : I x) : At (EnC cfg fn) fin (.code p :: td) (S x) := by
  have : ∃ c, sub (EnC cfg fn).root p = some (.loop c) := by
    unfold isLoop at hs
    split at hs
    · rename_i c h; exact ⟨c, h⟩
    · cases hs
  obtain ⟨c, hc⟩ := this
  exact at_loopS hmix I S μ l hc hr x hx

end Go.Proofs.Ytmlhaikblfjghaa.S1
