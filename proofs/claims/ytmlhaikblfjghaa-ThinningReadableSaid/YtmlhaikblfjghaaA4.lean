/- What the executor's states mean: the relation to the model's frames and worlds, the meaning of a call's contract, of a state at a place of the code; the run. Definitions. -/
import Derived.Test.YtmlhaikblfjghaaA3
namespace Go.Ab

def RowAt (g : G) (w : World) (b : Nat) (row : Row) : Prop :=
  ∃ (T : Nat) (vals : Array Value), w.heap[b]? = some (.cells vals T (0, 0)) ∧
    match row with
    | .lit cs => Rs g cs vals.toList
    | .arr n get => n ≤ vals.size ∧ ∀ i, i < n → ∃ v, vals[i]? = some v ∧ R g (get i) v

/-- An append right that has room: its block, from its start on, is nobody else's behind what is in use. -/
def TokAt (g : G) (w : World) (U : Nat → Prop) (k : Tok) : Prop :=
  ∃ b, k.a = some ⟨b, 0, none⟩ ∧ ¬ U b ∧ ∃ (T : Nat) (vals : Array Value), w.heap[b]? = some (.cells vals T (0, 0)) ∧ k.cap * k.sz ≤ vals.size ∧ ∀ j, k.n * k.sz ≤ j → g.σ ⟨b, j, none⟩ = none

/-- The heap as the ghost memory and the world have it. `U`: the blocks that may not turn. -/
structure Inv (g : G) (U : Nat → Prop) (h : Heap) (w : World) : Prop where
  sub : ∀ a v, g.σ a = some v → w.cell? a = some v ∧ a.spot = none
  ub : ∀ b, U b → b < w.heap.size
  muLt : ∀ l b, g.μ l = some b → b < w.heap.size
  box : ∀ l row, h.box l = some row → ∃ b, g.μ l = some b ∧ RowAt g w b row ∧ ¬ U b ∧ ∀ a v, g.σ a = some v → a.block ≠ b
  boxInj : ∀ l l' b, h.box l ≠ none → g.μ l = some b → g.μ l' = some b → l = l'
  tok : ∀ t n, h.hw t = some n → ∃ k, g.τ t = some k ∧ k.n = n ∧ (k.n < k.cap → TokAt g w U k)
  tokBox : ∀ t n k b l, h.hw t = some n → g.τ t = some k → k.n < k.cap → k.a = some ⟨b, 0, none⟩ → h.box l ≠ none → g.μ l ≠ some b
  tokInj : ∀ t t' n n' k k' b, h.hw t = some n → h.hw t' = some n' → g.τ t = some k → g.τ t' = some k' → k.n < k.cap → k'.n < k'.cap → k.a = some ⟨b, 0, none⟩ → k'.a = some ⟨b, 0, none⟩ → t = t'
  frL : ∀ l, h.nl ≤ l → g.μ l = none
  frT : ∀ t, h.nt ≤ t → g.τ t = none

/-- What stays: the streams, the tape, the blocks of U; no block goes. -/
structure Kept (U : Nat → Prop) (w w' : World) : Prop where
  os : w'.os = w.os
  tape : w'.tape = w.tape
  output : w'.output = w.output
  size : w.heap.size ≤ w'.heap.size
  block : ∀ b, U b → w'.heap[b]? = w.heap[b]?

/-- The ghost memory grows, and no unchanging cell of an old block that may not turn comes up. -/
structure Grow (U : Nat → Prop) (g g' : G) : Prop where
  le : G.le g g'
  new : ∀ a v, g'.σ a = some v → g.σ a = some v ∨ ¬ U a.block

/-- A slot's value, in a region: `y j w`: operation j has yielded w; `β s`: the block of slot s's own box. -/
def RS0 (g : G) (β : Nat → Nat) (d : D) (v : Value) : Prop :=
  match d with
  | .lp s off => v = .pointer (some ⟨β s, off, none⟩)
  | d => R g d v

def RS (g : G) (β : Nat → Nat) (y : Nat → Bool → Prop) (t : Nat) (d : D) (v : Value) : Prop :=
  match d with
  | .own _ => v = .pointer (some ⟨β t, 0, none⟩)
  | .junk => True
  | .may j w d => y j w → RS0 g β d v
  | d => RS0 g β d v

/-- A slot's value that is known to hold. -/
def Live (y : Nat → Bool → Prop) : D → Prop
  | .may j w _ => y j w
  | _ => True

structure Rel (n : Nat) (g : G) (β : Nat → Nat) (U : Nat → Prop) (y : Nat → Bool → Prop) (st : St) (a : Act) (w : World) : Prop where
  defers : a.defers = []
  size : a.tmps.size = n
  keys : (st.sl.map (·.1)).Nodup
  slot : ∀ t d, look st.sl t = some d → RS g β y t d (a.tmps.getD t undef)
  base : ∀ t d s, look st.sl t = some d → Live y d → baseOf d = some s → ∃ cs, look st.sl s = some (.own cs)
  own : ∀ t cs, look st.sl t = some (.own cs) → RowAt g w (β t) (.lit cs) ∧ ¬ U (β t) ∧ (∀ a v, g.σ a = some v → a.block ≠ β t) ∧ (∀ l, st.h.box l ≠ none → g.μ l ≠ some (β t)) ∧
    ∀ t' n k, st.h.hw t' = some n → g.τ t' = some k → k.n < k.cap → k.a ≠ some ⟨β t, 0, none⟩
  ownInj : ∀ t t' cs cs', look st.sl t = some (.own cs) → look st.sl t' = some (.own cs') → β t = β t' → t = t'
  inv : Inv g U st.h w

/-- What hangs on an operation hangs on one before number i. -/
def MayLt (i : Nat) (st : St) : Prop := ∀ t j w d, look st.sl t = some (.may j w d) → j < i

def noY : Nat → Bool → Prop := fun _ _ => False

def exitOf : Ex → Exit
  | .normal => .normal
  | .ret => .ret
  | .exit i => .exit i

/-- From every frame and world that the state describes the code goes to its end, and leaves one that Q describes. -/
def AWp (P : Program) (n : Nat) (c : Code) (st : St) (Q : Ex → St → Prop) : Prop :=
  ∀ (g : G) (β : Nat → Nat) (U : Nat → Prop) (a : Act) (w : World), Rel n g β U noY st a w →
    c.wp P (fun e a' w' => ∃ ex g' β' st', e = exitOf ex ∧ Rel n g' β' U noY st' a' w' ∧ Grow U g g' ∧ Kept U w w' ∧ Q ex st') a w

def yOf (ops : List Oper) (a : Act) : Nat → Bool → Prop := fun j w => yielded ops.toArray a.tmps j = some w

/-- In a region, its operations before number i done: one under a guard that has yielded something has run: its guard said so. -/
def Chain (ops : List Oper) (i : Nat) (a : Act) : Prop :=
  ∀ j o j1 w1, j < i → ops[j]? = some o → o.guard = some (j1, w1) → yielded ops.toArray a.tmps j ≠ none → yielded ops.toArray a.tmps j1 = some w1

/-- In a region, before operation number i, in their order. -/
def OpsSem (P : Program) (n : Nat) (ops : List Oper) (i : Nat) (st : St) (Q : St → Prop) : Prop :=
  ∀ (g : G) (β : Nat → Nat) (U : Nat → Prop) (a : Act) (w : World), Rel n g β U (yOf ops a) st a w → MayLt i st → Chain ops i a →
    wpOps P ops.toArray (fun e a' w' => e = .normal ∧ ∃ g' β' st', Rel n g' β' U noY st' a' w' ∧ Grow U g g' ∧ Kept U w w' ∧ Q st') (List.range' i (ops.length - i)) a w

/-- Each operation's slot is its own: no other of the region writes it. -/
def dstsApart (ops : List Oper) : Bool := (ops.filterMap (·.dst)).Nodup

/-- An operation hangs on one before it. -/
def guardsBack : Nat → List Oper → Bool
  | _, [] => true
  | i, o :: r => (match o.guard with | some (j, _) => Nat.blt j i | none => true) && guardsBack (i + 1) r

/-- An operation waits for such before it. -/
def edgesBack : Nat → List Oper → Bool
  | _, [] => true
  | i, o :: r => (o.after.toList.all fun e => bif Region.binds .any e then Nat.blt e.on i else true) && edgesBack (i + 1) r

/-- The slots that are written are there. -/
def dstsIn (n : Nat) (ops : List Oper) : Bool := ops.all fun o => match o.dst with | some d => Nat.blt d n | none => true

def opsOk (n : Nat) (ops : List Oper) : Bool := dstsApart ops && dstsIn n ops && guardsBack 0 ops

/-- What is still to do, and all goes well. -/
def Cont (E : Env) (fin : St → Prop) : List It → Ex → St → Prop
  | [], .normal, st => fin st
  | [], .ret, st => fin st
  | [], .exit _, _ => False
  | .code p :: td, .normal, st => ∃ c, sub E.root p = some c ∧ AWp E.P E.nt c st (Cont E fin td)
  | .code _ :: td, e, st => Cont E fin td e st
  | .ops p i :: td, .normal, st => OpsSem E.P E.nt (opsOf E.root p) i st (Cont E fin td .normal)
  | .ops _ _ :: td, e, st => Cont E fin td e st
  | .blk _ :: td, .normal, st => Cont E fin td .normal st
  | .blk _ :: td, .ret, st => Cont E fin td .ret st
  | .blk id :: td, .exit i, st => if id = i then Cont E fin td .normal st else Cont E fin td (.exit i) st
  | .stop J :: _, .normal, st => J st
  | .stop _ :: td, e, st => Cont E fin td e st

/-- At a place of the code, in this state, all goes well. -/
structure At (E : Env) (fin : St → Prop) (td : List It) (st : St) : Prop where
  it : Cont E fin td .normal st

/-- A function that can be called. -/
def Callable (P : Program) (f : Nat) : Prop := ∃ fn : Func, P.funcs[f]? = some fn ∧ fn.body.isNone = false ∧ (fn.name == "runtime.NumGoroutine") = false

/-- d reads alike as d'. -/
def Wk (d d' : D) : Prop := ∀ g v, R g d v → R g d' v
def Wks (ds ds' : List D) : Prop := ∀ g vs, Rs g ds vs → Rs g ds' vs

/-- THE CONTRACT OF A FUNCTION THAT ONLY COMPUTES: called with values that read as args it returns one that reads as v; what was there stays as it was. -/
structure Pure (P : Program) (f : Nat) (args : List D) (v : D) : Prop where
  ok : Callable P f
  da : Datas args
  dv : Data v
  calls : ∀ (g : G) (w : World) (vs : List Value), (∀ a x, g.σ a = some x → w.cell? a = some x ∧ a.spot = none) → Rs g args vs →
    Calls P f vs.toArray w fun e w' => ∃ (x : Value) (σ' : Addr → Option Value), e = .returned x ∧ R ⟨σ', g.μ, g.τ⟩ v x ∧ (∀ a x, g.σ a = some x → σ' a = some x) ∧
      (∀ a x, σ' a = some x → w'.cell? a = some x ∧ a.spot = none) ∧ (∀ a x, σ' a = some x → g.σ a = some x ∨ w.heap.size ≤ a.block) ∧ RowKit.Below w.heap.size w w'

/-- What is asked at a call. -/
structure CallA (P : Program) (f : Nat) (args : List D) (h : Heap) (K : D → Heap → Prop) : Prop where
  ok : Callable P f
  calls : ∀ (g : G) (U : Nat → Prop) (w : World) (vs : List Value), Inv g U h w → Rs g args vs →
    Calls P f vs.toArray w fun e w' => ∃ (x : Value) (g' : G) (d : D) (h' : Heap), e = .returned x ∧ R g' d x ∧ Inv g' U h' w' ∧ Grow U g g' ∧ Kept U w w' ∧ K d h'

/-- What is asked at a call under a guard, or in a region that draws its order. -/
structure PCall (P : Program) (c : Bool) (f : Nat) (args : List D) (h : Heap) (K : D → Heap → Prop) : Prop where
  it : ∃ args' v, isD v = true ∧ (c = true → Wks args args' ∧ Pure P f args' v) ∧ K v h

/-- For each operation a mask of those that it waits for, directly or through others. -/
def masks : List Oper → List Nat → List Nat
  | [], acc => acc
  | o :: r, acc => masks r (acc ++ [o.after.toList.foldl (fun m e => bif Region.binds .any e && Nat.blt e.on acc.length then m ||| 2 ^ e.on ||| acc.getD e.on 0 else m) 0])

/-- In a region that draws its order: from operation i on, at most m calls. -/
def exQ (E : Env) (ops : List Oper) (k : St → Prop) : Nat → Nat → List FP → St → Prop
  | 0, _, _, _ => False
  | m + 1, i, fps, st => exD E.P E.cfg (PCall E.P) E.nt (masks ops []) ops (exQ E ops k m) i (ops.drop i) fps st k

/-- In the region at p, which draws its order, before operation i in the order of the text, all goes well. -/
structure AtQ (E : Env) (fin : St → Prop) (p : List Nat) (td : List It) (i : Nat) (fps : List FP) (st : St) : Prop where
  it : ∃ m, exQ E (opsOf E.root p) (At E fin td) m i fps st

def run (E : Env) (fin : St → Prop) : Nat → List It → St → Prop
  | 0, td, st => At E fin td st
  | _ + 1, [], st => fin st
  | n + 1, .blk _ :: td, st => run E fin n td st
  | _ + 1, .stop J :: _, st => J st
  | n + 1, .ops p i :: td, st => bif opsOk E.nt (opsOf E.root p) then execOps E.P E.cfg (CallA E.P) (PCall E.P) (opsOf E.root p) (fun _ => false) (fun i st => At E fin (.ops p i :: td) st) i ((opsOf E.root p).drop i) st (run E fin n td) else False
  | n + 1, .code p :: td, st => match sub E.root p with
    | some .skip => run E fin n td st
    | some (.seq _ _) => run E fin n (.code (p ++ [0]) :: .code (p ++ [1]) :: td) st
    | some (.cond c _ _) => match evO st.sl [] c with
      | .bool b => cond b (run E fin n (.code (p ++ [0]) :: td) st) (run E fin n (.code (p ++ [1]) :: td) st)
      | _ => False
    | some (.block id _) => run E fin n (.code (p ++ [0]) :: .blk id :: td) st
    | some (.exit id) => match popTo id td with
      | some td' => run E fin n td' st
      | none => False
    | some .ret => fin st
    | some (.region _ ops false) => bif opsOk E.nt ops.toList then execOps E.P E.cfg (CallA E.P) (PCall E.P) ops.toList (fun _ => false) (fun i st => At E fin (.ops p i :: td) st) 0 ops.toList { st with sl := purge st.sl } (run E fin n td) else False
    | some (.region _ ops true) => bif opsOk E.nt ops.toList && edgesBack 0 ops.toList then exD E.P E.cfg (PCall E.P) E.nt (masks ops.toList []) ops.toList (AtQ E fin p td) 0 ops.toList [] { st with sl := purge st.sl } (run E fin n td) else False
    | some (.loop _) => At E fin (.code p :: td) st
    | _ => At E fin (.code p :: td) st

/-- A region that draws its order, from operation i on. -/
def runQ (E : Env) (fin : St → Prop) (n : Nat) (p : List Nat) (td : List It) (i : Nat) (fps : List FP) (st : St) : Prop :=
  exD E.P E.cfg (PCall E.P) E.nt (masks (opsOf E.root p) []) (opsOf E.root p) (AtQ E fin p td) i ((opsOf E.root p).drop i) fps st (run E fin n td)

end Go.Ab
