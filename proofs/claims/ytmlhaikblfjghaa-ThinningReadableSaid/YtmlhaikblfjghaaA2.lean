/- The symbolic executor's step: what an operation does to an abstract state. Definitions only. -/
import Derived.Test.YtmlhaikblfjghaaA1
namespace Go.Ab

/-- A box's content: cells one by one (a variable, a struct), or n cells by a function (an array). -/
inductive Row
  | lit (cs : List D)
  | arr (n : Nat) (get : Nat → D)

structure Heap where
  box : Nat → Option Row
  nl : Nat
  hw : Nat → Option Nat
  nt : Nat

def Heap.empty : Heap := ⟨fun _ => none, 0, fun _ => none, 0⟩

def upd {α : Type} (f : Nat → α) (k : Nat) (v : α) : Nat → α := fun i => bif Nat.beq i k then v else f i

abbrev Slots := List (Nat × D)

structure St where
  sl : Slots
  h : Heap

def look : Slots → Nat → Option D
  | [], _ => none
  | (s, d) :: r, t => bif Nat.beq s t then some d else look r t

/-- A pointer into the box of this slot (whatever it hangs on). -/
def isLp : D → Nat → Bool
  | .lp s _, t => Nat.beq s t
  | .may _ _ (.lp s _), t => Nat.beq s t
  | _, _ => false

def del : Slots → Nat → Slots
  | [], _ => []
  | (s, d) :: r, t => bif Nat.beq s t || isLp d t then del r t else (s, d) :: del r t

def put (sl : Slots) (t : Nat) (d : D) : Slots := (t, d) :: del sl t

def putO (sl : Slots) (t : Option Nat) (d : D) : Slots := match t with | some t => put sl t (bif isLp d t then .junk else d) | none => sl

def isMayLp : D → Bool
  | .lp _ _ | .may _ _ _ => true
  | _ => false

/-- At a region's end: what holds inside it alone is struck. -/
def purge : Slots → Slots
  | [] => []
  | (s, d) :: r => bif isMayLp d then purge r else (s, d) :: purge r

/-- Data at its head (no slot-only form). -/
def isD : D → Bool
  | .own _ | .lp _ _ | .may _ _ _ | .junk => false
  | _ => true

mutual
def ofVal : Value → D
  | .bool b => .bool b
  | .int k n => .int k n
  | .string s => bif Nat.ble s.data.toList.length strM then .str s.data.toList else .junk
  | .pointer none => .nilp
  | .slice none 0 0 => .list 0 0 (fun _ => .junk) .full
  | .map none => .nilm
  | .nilFunc => .nilf
  | .nilIface => .nili
  | .agg ⟨cs⟩ => bif (ofVals cs).all isD then .agg (ofVals cs) else .junk
  | .tuple ⟨cs⟩ => bif (ofVals cs).all isD then .tup (ofVals cs) else .junk
  | _ => .junk
def ofVals : List Value → List D
  | [] => []
  | v :: r => ofVal v :: ofVals r
end

def szOf (P : Program) (t : Nat) : Option Nat := (P.info? t).map (·.size)
def bytesOf (P : Program) (t : Nat) : Option Nat := (P.info? t).map (·.bytes)
def isAggT (P : Program) (t : Nat) : Option Bool := (P.underlying t).map fun | .struct _ => true | .array _ _ => true | _ => false
def zeroD (P : Program) (t : Nat) : Option D := ((P.info? t).bind (·.zero)).map ofVal

/-- A struct's field: its offset and size (none: no such field, or of size 0). -/
def fieldD (P : Program) (t f : Nat) : Option (Nat × Nat) :=
  match P.underlying t with
  | some (.struct fs) => match fs[f]? with
    | some x => match szOf P x.type with
      | some (n + 1) => some (x.offset, n + 1)
      | _ => none
    | none => none
  | _ => none

/-- What a read of type t gives of cells that begin with these. -/
def loadD (P : Program) (t : Nat) (cs : List D) : Option D :=
  match isAggT P t with
  | some true => match szOf P t with
    | some n => bif Nat.ble n cs.length then some (.agg (cs.take n)) else none
    | none => none
  | some false => cs.head?
  | none => none

/-- Cells with others laid over them from off on. -/
def splice (cs : List D) (off : Nat) (new : List D) : List D := cs.take off ++ new ++ cs.drop (off + new.length)

def fillD (place : Nat → Option (Nat × Nat)) (cells : List D) : List (Nat × D) → Option (List D)
  | [] => some cells
  | (i, d) :: r => match place i with
    | none => none
    | some (off, size) =>
      bif isD d && Nat.beq (cellsD d).length size && Nat.ble (off + size) cells.length then fillD place (splice cells off (cellsD d)) r else none

def shlI (k : IntKind) (x y : Int) : Int := k.wrap (x * 2 ^ (min y.toNat k.bits))
def shrI (k : IntKind) (x y : Int) : Int := x.fdiv (2 ^ (min y.toNat k.bits))
def andI (k : IntKind) (x y : Int) : Int := k.wrap (BitVec.ofInt k.bits x &&& BitVec.ofInt k.bits y).toNat
def orI (k : IntKind) (x y : Int) : Int := k.wrap (BitVec.ofInt k.bits x ||| BitVec.ofInt k.bits y).toNat
def xorI (k : IntKind) (x y : Int) : Int := k.wrap (BitVec.ofInt k.bits x ^^^ BitVec.ofInt k.bits y).toNat
def andNotI (k : IntKind) (x y : Int) : Int := k.wrap (BitVec.ofInt k.bits x &&& ~~~(BitVec.ofInt k.bits y)).toNat
/-- A sum, a difference, a product that goes round. -/
def addI (k : IntKind) (x y : Int) : Int := k.wrap (x + y)
def subI (k : IntKind) (x y : Int) : Int := k.wrap (x - y)
def mulI (k : IntKind) (x y : Int) : Int := k.wrap (x * y)
def quoI (k : IntKind) (x y : Int) : Int := k.wrap (x.tdiv y)

/-- An operation's outcome. val: a value, nothing turned. nd: so, where p holds. asm: so, and p is known from then on. new: a new box with these cells. eff: the heap or a slot turned, where p holds. -/
inductive Res
  | val (d : D)
  | nd (p : Prop) (d : D)
  | asm (p : Prop) (d : D)
  | new (cs : List D)
  | eff (p : Prop) (st : St) (d : D)
  | call (f : Nat) (args : List D)
  | bad

/-- A field of a struct's cells. -/
def partD (P : Program) (t : Nat) (cs : List D) (off : Nat) : Option D :=
  match isAggT P t, szOf P t with
  | some true, some n => bif Nat.ble (off + n) cs.length then some (.agg ((cs.drop off).take n)) else none
  | some false, _ => cs[off]?
  | _, _ => none

/-- Values of a type of whole numbers, bools, strings and structs of these: are they equal? -/
def eqTy (P : Program) : Nat → Nat → D → D → Option Bool
  | 0, _, _, _ => none
  | n + 1, t, x, y => match P.underlying t, x, y with
    | some .bool, .bool a, .bool b => some (a == b)
    | some (.int _), .int j a, .int k b => bif j == k then some (a == b) else none
    | some .string, .str a, .str b => some (a == b)
    | some (.struct fs), .agg xs, .agg ys => bif P.stoodInHeld t then none else eqFs P (eqTy P n) xs ys fs.toList
    | _, _, _ => none
 where
  eqFs (P : Program) (eq : Nat → D → D → Option Bool) (xs ys : List D) : List Field → Option Bool
    | [] => some true
    | f :: r => bif f.name == "_" then none else match partD P f.type xs f.offset, partD P f.type ys f.offset with
      | some a, some b => match eq f.type a b with
        | some u => match r with
          | [] => some u
          | _ => match eqFs P eq xs ys r with
            | some v => some (u && v)
            | none => none
        | none => none
      | _, _ => none

def binD (P : Program) (op : BinOp) (T : Nat) (x y : D) : Res :=
  match x, y with
  | .int k a, .int k' b => match op with
    | .shl => .nd (0 ≤ b) (.int k (shlI k a b))
    | .shr => .nd (0 ≤ b) (.int k (shrI k a b))
    | op => bif k == k' then (match op with
      | .add => .val (.int k (addI k a b))
      | .sub => .val (.int k (subI k a b))
      | .mul => .val (.int k (mulI k a b))
      | .quo => .nd (b ≠ 0) (.int k (quoI k a b))
      | .rem => .nd (b ≠ 0) (.int k (a.tmod b))
      | .and => .val (.int k (andI k a b))
      | .or => .val (.int k (orI k a b))
      | .xor => .val (.int k (xorI k a b))
      | .andNot => .val (.int k (andNotI k a b))
      | .eql => .val (.bool (a == b))
      | .neq => .val (.bool (a != b))
      | .lss => .val (.bool (decide (a < b)))
      | .leq => .val (.bool (decide (a ≤ b)))
      | .gtr => .val (.bool (decide (a > b)))
      | .geq => .val (.bool (decide (a ≥ b)))
      | _ => .bad) else .bad
  | .str a, .str b => match op with
    | .add => .nd (a.length + b.length ≤ strM) (.str (a ++ b))
    | .eql => .val (.bool (a == b))
    | .neq => .val (.bool (!(a == b)))
    | .lss => .val (.bool (Op.bytesLess a b))
    | .leq => .val (.bool (Op.bytesLess a b || a == b))
    | .gtr => .val (.bool (!(Op.bytesLess a b || a == b)))
    | .geq => .val (.bool (!(Op.bytesLess a b)))
    | _ => .bad
  | .bool a, .bool b => match op, P.underlying T with
    | .eql, some .bool => .val (.bool (a == b))
    | .neq, some .bool => .val (.bool (!(a == b)))
    | _, _ => .bad
  | .agg a, .agg b => bif P.eqGuardType P.depth T then .bad else (match op, eqTy P 10 T (.agg a) (.agg b) with
    | .eql, some r => .val (.bool r)
    | .neq, some r => .val (.bool (!r))
    | _, _ => .bad)
  | _, _ => .bad

/-- Is this operand the literal nil of a slice? -/
def isNilOp : Operand → Bool
  | .const (.slice none 0 0) => true
  | _ => false

/-- A slice that has elements, held against nil. -/
def nilD (P : Program) (op : BinOp) (T : Nat) (x : D) : Res :=
  match P.underlying T, op, x with
  | some (.slice _), .eql, .list n _ _ _ => .nd (0 < n) (.bool false)
  | some (.slice _), .neq, .list n _ _ _ => .nd (0 < n) (.bool true)
  | _, _, _ => .bad

def binOD (P : Program) (op : BinOp) (T : Nat) (y : Operand) (x z : D) : Res := bif isNilOp y then nilD P op T x else binD P op T x z

def unD (op : UnOp) (x : D) : Res :=
  match op, x with
  | .not, .bool b => .val (.bool (!b))
  | .neg, .int k n => .val (.int k (subI k 0 n))
  | .xor, .int k n => .val (.int k (xorI k (if k.signed then -1 else k.max) n))
  | _, _ => .bad

def convD (P : Program) (src dst : Nat) (x : D) : Res :=
  match P.underlying src, P.underlying dst, x with
  | some _, some (.int k), .int _ n => .val (.int k (k.wrap n))
  | some _, some .string, .str s => .val (.str s)
  | _, _, _ => .bad

def catG (n : Nat) (f g : Nat → D) : Nat → D := fun i => bif Nat.blt i n then f i else g (i - n)
def dropG (f : Nat → D) (k : Nat) : Nat → D := fun i => f (k + i)
def litG (l : List D) : Nat → D := fun i => l.getD i .junk
def strG (s : List UInt8) : Nat → D := fun i => .int .u8 (s.getD i 0).toNat

def roomM : Nat := 140737488355328

/-- What is appended: how many, which. -/
def srcD (sz : Nat) : D → Option (Nat × (Nat → D))
  | .list m z g _ => bif Nat.beq z sz then some (m, g) else bif Nat.beq m 0 then some (m, g) else none
  | .str s => bif Nat.beq sz 1 then some (s.length, strG s) else none
  | _ => none

/-- The one cell of a value of one cell. -/
def cell1 : D → D
  | .agg (x :: _) => x
  | d => d

/-- The cells of elements of sz cells each. -/
def cellsG (sz : Nat) (f : Nat → D) : Nat → D := bif Nat.beq sz 1 then fun i => cell1 (f i) else fun i => (cellsD (f (i / sz))).getD (i % sz) .junk

/-- bx: the new array is a box, to be written. -/
def appD (P : Program) (st : St) (bx : Bool) (T : Nat) (x y : D) : Res :=
  match P.underlying T with
  | some (.slice e) => match szOf P e, bytesOf P e, zeroD P e with
    | some sz, some (b + 1), some z => bif isD z && Nat.beq (cellsD z).length sz then (match x, srcD sz y with
      | .list n ez f own, some (m, g) => bif (bif Nat.beq ez sz then true else Nat.beq n 0) then (match own with
        | .none => .bad
        | .full => bif bx then .eff (0 < m ∧ (n + m) * (b + 1) ≤ roomM) { st with h := { st.h with box := upd st.h.box st.h.nl (some (.arr ((n + m) * sz) (cellsG sz (catG n f g)))), nl := st.h.nl + 1 } } (.sl st.h.nl 0 (n + m)) else .eff ((n + m) * (b + 1) ≤ roomM) { st with h := { st.h with hw := upd st.h.hw st.h.nt (some (n + m)), nt := st.h.nt + 1 } } (.list (n + m) sz (catG n f g) (.tok st.h.nt sz))
        | .tok t tz => bif Nat.beq sz tz then .eff (st.h.hw t = some n ∧ (n + m) * (b + 1) ≤ roomM) { st with h := { st.h with hw := upd st.h.hw t (some (n + m)) } } (.list (n + m) sz (catG n f g) (.tok t sz)) else .bad) else .bad
      | _, _ => .bad) else .bad
    | _, _, _ => .bad
  | _ => .bad

def minD : List D → Option D
  | [] => none
  | x :: r => r.foldl (fun acc y => match acc, y with
    | some (.int k a), .int _ b => some (.int k (if b < a then b else a))
    | _, _ => none) (some x)
def maxD : List D → Option D
  | [] => none
  | x :: r => r.foldl (fun acc y => match acc, y with
    | some (.int k a), .int _ b => some (.int k (if b > a then b else a))
    | _, _ => none) (some x)

def builtinD (P : Program) (st : St) (bx : Bool) (b : Builtin) (ts : List Nat) (args : List D) : Res :=
  match b, ts, args with
  | .len, t :: _, [.list n _ _ _] => match P.underlying t with
    | some (.slice _) => .asm (n ≤ lenM) (.int .i64 n)
    | _ => .bad
  | .len, t :: _, [.sl _ _ n] => match P.underlying t with
    | some (.slice _) => .asm (n ≤ lenM) (.int .i64 n)
    | _ => .bad
  | .len, t :: _, [.str s] => match P.underlying t with
    | some .string => .asm (s.length ≤ strM) (.int .i64 s.length)
    | _ => .bad
  | .append, [t, u], [x, y] => match P.underlying u with
    | some (.slice _) | some .string => appD P st bx t x y
    | _ => .bad
  | .min, _, l => match minD l with | some d => .val d | none => .bad
  | .max, _, l => match maxD l with | some d => .val d | none => .bad
  | _, _, _ => .bad

/-- A lower bound: none is 0. -/
def lowD : Option D → Option Int
  | none => some 0
  | some (.int _ a) => some a
  | some _ => none

/-- Slice expressions. The upper bound may not pass the length (Go lets it pass up to the capacity: what stands there is not known here). -/
def sliceD (P : Program) (T : Nat) (x : D) (lo hi mx : Option D) : Res :=
  match P.underlying T, x, lowD lo with
  | some (.slice e), .list n z f own, some l =>
    match szOf P e with
    | some sz => bif (bif Nat.beq z sz then true else Nat.beq n 0) then
      (match lo, hi, mx with
      | none, none, none => .val (.list n z f own)
      | some _, none, none => .nd (0 ≤ l ∧ l ≤ n) (.list (n - l.toNat) z (dropG f l.toNat) .none)
      | _, some (.int _ h), none => .nd (0 ≤ l ∧ l ≤ h ∧ h ≤ n) (.list (h.toNat - l.toNat) z (dropG f l.toNat) .none)
      | _, some (.int _ h), some (.int _ m) => .nd (0 ≤ l ∧ l ≤ h ∧ h ≤ n ∧ m = h) (.list (h.toNat - l.toNat) z (dropG f l.toNat) .full)
      | _, _, _ => .bad) else .bad
    | none => .bad
  | some (.slice e), .sl b off n, some l =>
    match szOf P e, hi, mx with
    | some sz, none, none => .nd (0 ≤ l ∧ l ≤ n) (.sl b (off + l.toNat * sz) (n - l.toNat))
    | some sz, some (.int _ h), none => .nd (0 ≤ l ∧ l ≤ h ∧ h ≤ n) (.sl b (off + l.toNat * sz) (h.toNat - l.toNat))
    | _, _, _ => .bad
  | some .string, .str s, some l =>
    match hi, mx with
    | none, none => .nd (0 ≤ l ∧ l ≤ s.length) (.str (s.drop l.toNat))
    | some (.int _ h), none => .nd (0 ≤ l ∧ l ≤ h ∧ h ≤ s.length) (.str ((s.take h.toNat).drop l.toNat))
    | _, _ => .bad
  | _, _, _ => .bad

def indexAddrD (P : Program) (T : Nat) (x i : D) : Res :=
  match P.underlying T, x, i with
  | some (.slice e), .list n z f _, .int _ i => match szOf P e with
    | some sz => bif Nat.beq z sz then .nd (0 ≤ i ∧ i < n) (.ep (cellsD (f i.toNat))) else .bad
    | none => .bad
  | some (.slice e), .sl b off n, .int _ i => match szOf P e with
    | some sz => .nd (0 ≤ i ∧ i < n) (.bp b (off + i.toNat * sz))
    | none => .bad
  | _, _, _ => .bad

def indexD (P : Program) (T : Nat) (x i : D) : Res :=
  match P.underlying T, x, i with
  | some .string, .str s, .int _ i => .nd (0 ≤ i ∧ i < s.length) (.int .u8 (s.getD i.toNat 0).toNat)
  | _, _, _ => .bad

def ownCells (sl : Slots) (s : Nat) : Option (List D) := match look sl s with | some (.own cs) => some cs | _ => none

def optRes : Option D → Res
  | some d => .val d
  | none => .bad

def rowLoad (P : Program) (t off : Nat) : Row → Res
  | .lit cs => optRes (loadD P t (cs.drop off))
  | .arr n get => match isAggT P t, szOf P t with
    | some false, some 1 => bif isD (get off) then .nd (off < n) (get off) else .bad
    | some true, some k => .nd (off + k ≤ n) (.agg ((List.range k).map fun j => get (off + j)))
    | _, _ => .bad

def loadRes (P : Program) (st : St) (t : Nat) (a : D) : Res :=
  match a with
  | .lp s off => match ownCells st.sl s with
    | some cs => optRes (loadD P t (cs.drop off))
    | none => .bad
  | .ep cs => optRes (loadD P t cs)
  | .bp l off => match st.h.box l with
    | some row => rowLoad P t off row
    | none => .bad
  | _ => .bad

/-- A store into a row; whether it lies inside. -/
def rowStore (off : Nat) (new : List D) : Row → Option (Prop × Row)
  | .lit cs => bif Nat.ble (off + new.length) cs.length then some (True, .lit (splice cs off new)) else none
  | .arr n get => some (off + new.length ≤ n, .arr n fun i => bif Nat.ble off i && Nat.blt i (off + new.length) then new.getD (i - off) .junk else get i)

def storeRes (P : Program) (st : St) (t : Nat) (a v : D) : Res :=
  match szOf P t, isD v with
  | some n, true => bif Nat.beq (cellsD v).length n && (cellsD v).all oneD then
      (match a with
      | .lp s off => match ownCells st.sl s with
        | some cs => bif Nat.ble (off + n) cs.length then .eff True { st with sl := (st.sl.map fun (x : Nat × D) => bif Nat.beq x.1 s then (s, D.own (splice cs off (cellsD v))) else x) } (.tup []) else .bad
        | none => .bad
      | .bp l off => match st.h.box l with
        | some row => match rowStore off (cellsD v) row with
          | some (p, row') => .eff p { st with h := { st.h with box := upd st.h.box l (some row') } } (.tup [])
          | none => .bad
        | none => .bad
      | _ => .bad) else .bad
  | _, _ => .bad

def fieldAddrD (P : Program) (t f : Nat) (a : D) : Res :=
  match fieldD P t f with
  | some (off, _) => match a with
    | .lp s o => .val (.lp s (o + off))
    | .bp l o => .val (.bp l (o + off))
    | .ep cs => .val (.ep (cs.drop off))
    | _ => .bad
  | none => .bad

/-- Which slots' boxes lie in the heap (their addresses go to other functions, or are captured). -/
structure Cfg where
  esc : Nat → Bool

def newRes (cfg : Cfg) (st : St) (dst : Option Nat) (cs : List D) : Res :=
  match dst with
  | some d => bif cfg.esc d then .eff True { st with h := { st.h with box := upd st.h.box st.h.nl (some (.lit cs)), nl := st.h.nl + 1 } } (.bp st.h.nl 0) else .new cs
  | none => .bad

def optMap {α β : Type} (f : α → Option β) : List α → Option (List β)
  | [] => some []
  | a :: r => match f a, optMap f r with
    | some b, some s => some (b :: s)
    | _, _ => none

def allD (l : List D) : Bool := l.all isD

def buildD (P : Program) (t : Nat) (parts : List (Nat × D)) : Option D :=
  match zeroD P t, P.underlying t with
  | some z, some (.struct fs) => bif isD z && fs.toList.all (fun f => (szOf P f.type).isSome) then (fillD (fieldD P t) (cellsD z) parts).map .agg else none
  | _, _ => none

/-- The elements of a slice literal: each place once, in order. -/
def litParts : Nat → List (Nat × D) → Option (List D)
  | _, [] => some []
  | i, (j, d) :: r => bif Nat.beq i j && isD d then (litParts (i + 1) r).map (d :: ·) else none

def buildSliceD (P : Program) (t len : Nat) (parts : List (Nat × D)) : Option D :=
  match P.underlying t with
  | some (.slice e) => match szOf P e, zeroD P e, litParts 0 parts with
    | some sz, some z, some ds => bif isD z && Nat.beq (cellsD z).length sz && Nat.beq ds.length len && Nat.ble len 65536 && Nat.ble (len * sz) 65536 && ds.all (fun d => Nat.beq (cellsD d).length sz) && ds.all ones then some (.list len sz (litG ds) .full) else none
    | _, _, _ => none
  | _ => none

def makeD (P : Program) (st : St) (t : Nat) (l c : D) : Res :=
  match P.underlying t, l, c with
  | some (.slice e), .int _ l, .int _ c => match szOf P e, bytesOf P e, zeroD P e with
    | some (sz + 1), some (b + 1), some z => bif isD z && Nat.beq (cellsD z).length (sz + 1) then
      .eff (0 ≤ l ∧ l = c ∧ l * (b + 1) ≤ roomM)
        { st with h := { st.h with box := upd st.h.box st.h.nl (some (.arr (l.toNat * (sz + 1)) (cellsG (sz + 1) fun _ => z))), nl := st.h.nl + 1 } } (.sl st.h.nl 0 l.toNat) else .bad
    | _, _, _ => .bad
  | _, _, _ => .bad

def nilCheckD (x : D) : Res :=
  match x with
  | .bp _ _ | .ep _ | .lp _ _ | .clo _ _ => .val x
  | _ => .bad

def opD (P : Program) (cfg : Cfg) (st : St) (ev : Operand → D) (dst : Option Nat) (o : Op) : Res :=
  match o with
  | .move x | .assign x => match ev x with
    | .junk => .bad
    | .own _ => .bad
    | .may _ _ _ => .bad
    | d => .val d
  | .alloc t => match zeroD P t with
    | some z => bif isD z then newRes cfg st dst (cellsD z) else .bad
    | none => .bad
  | .box _ x => bif isD (ev x) then newRes cfg st dst (cellsD (ev x)) else .bad
  | .build t parts => optRes (buildD P t (parts.toList.map fun (x : Nat × Operand) => (x.1, ev x.2)))
  | .buildSlice t len parts => optRes (buildSliceD P t len (parts.toList.map fun (x : Nat × Operand) => (x.1, ev x.2)))
  | .load t a => loadRes P st t (ev a)
  | .store t a v => storeRes P st t (ev a) (ev v)
  | .nilCheck x => nilCheckD (ev x)
  | .binOp op t x y _ => binOD P op t y (ev x) (ev y)
  | .unOp op _ x => unD op (ev x)
  | .convert s d x => convD P s d (ev x)
  | .makeFunc (.func f) first caps => bif first.isEmpty && allD (caps.toList.map ev) then .val (.clo f (caps.toList.map ev)) else .bad
  | .makeSlice t l c => makeD P st t (ev l) (ev c)
  | .slice t x lo hi mx => sliceD P t (ev x) (lo.map ev) (hi.map ev) (mx.map ev)
  | .fieldAddr t x f => fieldAddrD P t f (ev x)
  | .indexAddr t x i => indexAddrD P t (ev x) (ev i)
  | .index t x i => indexD P t (ev x) (ev i)
  | .extract x i => match ev x with
    | .tup ds => optRes ds[i]?
    | _ => .bad
  | .call c => match c.callee with
    | .value f => match ev f with
      | .clo f caps => bif allD (c.args.toList.map ev) then .call f (c.args.toList.map ev ++ caps) else .bad
      | _ => .bad
    | .builtin b => bif allD (c.args.toList.map ev) then builtinD P st (match dst with | some d => cfg.esc d | none => false) b c.argTypes.toList (c.args.toList.map ev) else .bad
    | .invoke _ _ => .bad
  | _ => .bad

end Go.Ab
