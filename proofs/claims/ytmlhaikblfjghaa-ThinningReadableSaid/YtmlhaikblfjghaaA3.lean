/- The symbolic executor: regions, and the run over the code's places. Definitions only. -/
import Derived.Test.YtmlhaikblfjghaaA2
namespace Go.Ab

def beqB (a b : Bool) : Bool := match a, b with | true, true => true | false, false => true | _, _ => false

def clos (ops : List Oper) (i : Nat) : Nat → Nat × Bool → List (Nat × Bool)
  | 0, _ => []
  | n + 1, g => bif Nat.blt g.1 i then g :: (match (ops[g.1]?).bind (·.guard) with | some g' => clos ops i n g' | none => []) else []

def hasG : List (Nat × Bool) → Nat → Bool → Bool
  | [], _, _ => false
  | (a, b) :: r, j, w => (Nat.beq a j && beqB b w) || hasG r j w

def evO (sl : Slots) (cl : List (Nat × Bool)) : Operand → D
  | .tmp s => match look sl s with
    | some (.own _) => .lp s 0
    | some (.may j w d) => bif hasG cl j w then d else .junk
    | some d => d
    | none => .junk
  | .const v => ofVal v
  | .func f => .clo f []
  | .global _ => .junk

def dstOf (ops : List Oper) (j : Nat) : Option Nat := (ops[j]?).bind (·.dst)

def guardIs (ops : List Oper) (j j' : Nat) (w' : Bool) : Bool := match (ops[j]?).bind (·.guard) with | some (a, b) => Nat.beq a j' && beqB b w' | none => false

/-- Whether operation j has yielded w, as a Bool of the abstract state. -/
def gB (sl : Slots) (ops : List Oper) (i : Nat) : Nat → Nat × Bool → Option Bool
  | 0, _ => none
  | n + 1, (j, w) => match dstOf ops j with
    | some s => match look sl s with
      | some (.bool b) => some (bif w then b else !b)
      | some (.may j' w' (.bool b)) => bif Nat.blt j i && guardIs ops j j' w' then (match gB sl ops i n (j', w') with
        | some x => some (x && (bif w then b else !b))
        | none => none) else none
      | _ => none
    | none => none

/-- Which operation before i wrote this slot. -/
def whoWrote (ops : List Oper) (s : Nat) : Nat → Option Nat
  | 0 => none
  | i + 1 => match dstOf ops i with
    | some t => bif Nat.beq s t then some i else whoWrote ops s i
    | none => whoWrote ops s i

/-- What is known where c has yielded w. -/
def clW (ops : List Oper) (i : Nat) (cl : List (Nat × Bool)) (c : Operand) (w : Bool) : List (Nat × Bool) :=
  match c with
  | .tmp s => (match whoWrote ops s i with | some j => clos ops i 40 (j, w) ++ cl | none => cl)
  | _ => cl

/-- 'c ? a : b' on Bools. The operand that is chosen where operation j (c's own) has yielded w may hang on just that. -/
def pickD (sl : Slots) (cl : List (Nat × Bool)) (ops : List Oper) (i : Nat) (c a b : Operand) : Option D :=
  match evO sl cl c, evO sl (clW ops i cl c true) a, evO sl (clW ops i cl c false) b with
  | .bool c, .bool a, .bool b => some (.bool (bif c then a else b))
  | _, _, _ => none

/-- What follows an operation that stops the walk (a call): its number, the state behind it. -/
abbrev KontT := Nat → St → Prop

/-- f called with values that read as args: what is asked of what it leaves. -/
abbrev CallT := Nat → List D → Heap → (D → Heap → Prop) → Prop
abbrev PCallT := Bool → CallT

def okMay : D → Bool
  | .own _ | .may _ _ _ | .junk => false
  | _ => true

/-- The operations in their order. `call`, `pcall`: what is asked at a call; at one under a guard, or in a region that draws its order. `q`: quiet: nothing but values. -/
def execOps (P : Program) (cfg : Cfg) (call : CallT) (pcall : PCallT) (ops : List Oper) (q : Nat → Bool) (kc : KontT) : Nat → List Oper → St → (St → Prop) → Prop
  | _, [], st, k => k { st with sl := purge st.sl }
  | i, o :: rest, st, k =>
    let next (st : St) : Prop := execOps P cfg call pcall ops q kc (i + 1) rest st k
    match o.guard with
    | none => match o.op with
      | .pick c a b => match pickD st.sl [] ops i c a b with
        | some d => next { st with sl := putO st.sl o.dst d }
        | none => False
      | op => match opD P cfg st (evO st.sl []) o.dst op with
        | .val d => next { st with sl := putO st.sl o.dst d }
        | .nd p d => p ∧ next { st with sl := putO st.sl o.dst d }
        | .asm p d => p → next { st with sl := putO st.sl o.dst d }
        | .new cs => next { st with sl := putO st.sl o.dst (.own cs) }
        | .eff p st' d => bif q i then False else p ∧ next { st' with sl := putO st'.sl o.dst d }
        | .call f args => bif q i then pcall true f args st.h (fun v _ => kc (i + 1) { st with sl := putO st.sl o.dst v })
          else call f args st.h (fun v h' => kc (i + 1) { sl := putO st.sl o.dst v, h := h' })
        | .bad => False
    | some (j, w) => match gB st.sl ops i 40 (j, w) with
      | none => False
      | some g => match o.op with
        | .pick c a b => match pickD st.sl (clos ops i 40 (j, w)) ops i c a b with
          | some d => next { st with sl := putO st.sl o.dst (.may j w d) }
          | none => False
        | op => match opD P cfg st (evO st.sl (clos ops i 40 (j, w))) o.dst op with
          | .val d => bif okMay d then next { st with sl := putO st.sl o.dst (.may j w d) } else False
          | .nd p d => bif okMay d then (g = true → p) ∧ next { st with sl := putO st.sl o.dst (.may j w d) } else False
          | .asm p d => bif okMay d then (g = true → p) → next { st with sl := putO st.sl o.dst (.may j w d) } else False
          | .call f args => pcall g f args st.h (fun v _ => kc (i + 1) { st with sl := putO st.sl o.dst (.may j w v) })
          | .eff p st' d => bif q i then False else cond g (p ∧ next { st' with sl := putO st'.sl o.dst d }) (next { st with sl := putO st.sl o.dst .junk })
          | .new _ => False
          | .bad => False

/-- What an operation of a region that draws its order writes and names: slots, boxes by their slot, the heap as one more slot; the slot whose box its result points into. -/
structure FP where
  w : List Nat
  n : List Nat
  rb : Option Nat

def hitB (a b : List Nat) : Bool := a.any fun x => b.any (Nat.beq x)

def baseOf : D → Option Nat
  | .lp s _ => some s
  | .may _ _ (.lp s _) => some s
  | _ => none

/-- Operation j against k before it: who meets it waits for it. -/
def pairOk (ms : List Nat) (j k : Nat) (dst : Option Nat) (fj fk : FP) : Bool :=
  (bif hitB fk.w fj.n || hitB fk.n fj.w then (ms.getD j 0).testBit k else true) && (match dst, fk.rb with | some d, some s => !Nat.beq d s | _, _ => true)

def fpOk (ms : List Nat) (j : Nat) (dst : Option Nat) (fj : FP) : Nat → List FP → Bool
  | _, [] => true
  | k, f :: r => pairOk ms j k dst fj f && fpOk ms j dst fj (k + 1) r

def tmpsOf (op : Op) : List Nat := op.operands.toList.filterMap fun | .tmp t => some t | _ => none

def namesOf (ops : List Oper) (o : Oper) (ev : Operand → D) (cl : List (Nat × Bool)) : List Nat :=
  tmpsOf o.op ++ (o.op.operands.toList.filterMap fun x => baseOf (ev x)) ++ (cl.filterMap fun p => dstOf ops p.1) ++ o.dst.toList

/-- The slot whose box an operation stores into. -/
def effOwn (ev : Operand → D) (op : Op) : Option Nat :=
  match op with
  | .store _ a _ => baseOf (ev a)
  | _ => none

def isBp : D → Bool
  | .bp _ _ => true
  | _ => false

def readsH (ev : Operand → D) (op : Op) : Bool :=
  match op with
  | .load _ a => isBp (ev a)
  | _ => false

def fpOf (H : Nat) (ops : List Oper) (o : Oper) (ev : Operand → D) (cl : List (Nat × Bool)) (eff : Bool) (rb : Option Nat) : FP :=
  let own := bif eff then effOwn ev o.op else none
  let h := bif eff then (match own with | some _ => false | none => true) else false
  { w := o.dst.toList ++ own.toList ++ (bif h then [H] else [])
    n := namesOf ops o ev cl ++ rb.toList ++ (bif h || readsH ev o.op then [H] else [])
    rb := rb }

/-- The operations of a region that draws its order, in the order of the text: whatever order is drawn, it comes to this. -/
def exD (P : Program) (cfg : Cfg) (pcall : PCallT) (H : Nat) (ms : List Nat) (ops : List Oper) (kc : Nat → List FP → St → Prop) : Nat → List Oper → List FP → St → (St → Prop) → Prop
  | _, [], _, st, k => k { st with sl := purge st.sl }
  | i, o :: rest, fps, st, k =>
    let go (ev : Operand → D) (cl : List (Nat × Bool)) (eff : Bool) (d : D) (st' : St) : Prop :=
      bif fpOk ms i o.dst (fpOf H ops o ev cl eff (baseOf d)) 0 fps then exD P cfg pcall H ms ops kc (i + 1) rest (fps ++ [fpOf H ops o ev cl eff (baseOf d)]) { st' with sl := putO st'.sl o.dst d } k else False
    let goC (ev : Operand → D) (cl : List (Nat × Bool)) (d : D) : Prop :=
      bif fpOk ms i o.dst (fpOf H ops o ev cl false (baseOf d)) 0 fps then kc (i + 1) (fps ++ [fpOf H ops o ev cl false (baseOf d)]) { st with sl := putO st.sl o.dst d } else False
    match o.guard with
    | none => match o.op with
      | .pick c a b => match pickD st.sl [] ops i c a b with
        | some d => go (evO st.sl []) [] false d st
        | none => False
      | op => match opD P cfg st (evO st.sl []) o.dst op with
        | .val d => go (evO st.sl []) [] false d st
        | .nd p d => p ∧ go (evO st.sl []) [] false d st
        | .asm p d => p → go (evO st.sl []) [] false d st
        | .new cs => go (evO st.sl []) [] false (.own cs) st
        | .eff p st' d => p ∧ go (evO st.sl []) [] true d st'
        | .call f args => pcall true f args st.h (fun v _ => goC (evO st.sl []) [] v)
        | .bad => False
    | some (j, w) => match gB st.sl ops i 40 (j, w) with
      | none => False
      | some g => match o.op with
        | .pick c a b => match pickD st.sl (clos ops i 40 (j, w)) ops i c a b with
          | some d => go (evO st.sl (clos ops i 40 (j, w))) (clos ops i 40 (j, w)) false (.may j w d) st
          | none => False
        | op => match opD P cfg st (evO st.sl (clos ops i 40 (j, w))) o.dst op with
          | .val d => bif okMay d then go (evO st.sl (clos ops i 40 (j, w))) (clos ops i 40 (j, w)) false (.may j w d) st else False
          | .nd p d => bif okMay d then (g = true → p) ∧ go (evO st.sl (clos ops i 40 (j, w))) (clos ops i 40 (j, w)) false (.may j w d) st else False
          | .asm p d => bif okMay d then (g = true → p) → go (evO st.sl (clos ops i 40 (j, w))) (clos ops i 40 (j, w)) false (.may j w d) st else False
          | .call f args => pcall g f args st.h (fun v _ => goC (evO st.sl (clos ops i 40 (j, w))) (clos ops i 40 (j, w)) (.may j w v))
          | .eff .. => False
          | .new _ => False
          | .bad => False

/-- A place in a function's code. -/
def sub : Code → List Nat → Option Code
  | c, [] => some c
  | .seq a _, 0 :: p => sub a p
  | .seq _ b, 1 :: p => sub b p
  | .cond _ a _, 0 :: p => sub a p
  | .cond _ _ b, 1 :: p => sub b p
  | .block _ c, 0 :: p => sub c p
  | .loop c, 0 :: p => sub c p
  | _, _ => none

inductive Ex
  | normal | ret | exit (id : Nat)

/-- What is still to do: a place of the code; a region's operations from number i on; the end of a block; a stop, where this is asked. -/
inductive It
  | code (p : List Nat)
  | ops (p : List Nat) (i : Nat)
  | blk (id : Nat)
  | stop (J : St → Prop)

def popTo (id : Nat) : List It → Option (List It)
  | [] => none
  | .blk i :: td => bif Nat.beq i id then some td else popTo id td
  | _ :: td => popTo id td

/-- A function's walk: the program, which boxes lie in the heap, its code, how many slots. -/
structure Env where
  P : Program
  cfg : Cfg
  root : Code
  nt : Nat

def opsOf (root : Code) (p : List Nat) : List Oper :=
  match sub root p with
  | some (.region _ ops _) => ops.toList
  | _ => []

def drawsAt (root : Code) (p : List Nat) : Bool :=
  match sub root p with
  | some (.region _ _ d) => d
  | _ => false

end Go.Ab
