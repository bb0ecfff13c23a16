/- The abstract interpreter: regions, code, calls. -/
import Derived.Test.YtjecepaaalfilaaAi2
set_option linter.unusedVariables false
set_option linter.unusedSimpArgs false
namespace Go.Proofs.Ytjecepaaalfilaa.AI
open Go

/-! ### 1. What an operation may do -/
inductive Cls where
  | pure : Cls
  | read : Cls
  | big : Cls

def cls (P : Program) (o : Oper) : Cls :=
  match o.op with
  | .load .. | .lookup .. => .read
  | .convert src dst _ => match P.underlying src, P.underlying dst with
    | some (.slice _), some .string => .read
    | some .unsafePointer, _ => .read
    | _, some .unsafePointer => .read
    | _, some (.slice _) => .big
    | _, _ => .pure
  | .call c => match c.callee with
    | .builtin .len => match c.argTypes.toList with
      | t :: _ => match P.underlying t with
        | some (.map _ _) => .read
        | _ => .pure
      | [] => .pure
    | .builtin .min | .builtin .max => .pure
    | _ => .big
  | .store .. | .mapUpdate .. | .insert .. | .mapEntry .. | .entryStore .. | .defer _ | .go _ | .panic _ | .send .. | .recv .. | .select .. | .range .. | .next .. | .entry _ | .ready _ | .waits _ | .typeAssert .. | .makeInterface .. | .makeChan .. | .sliceToArrayPointer .. => .big
  | _ => .pure

def Hp.eff (h : Hp) : List Eff → Hp
  | [] => h
  | .put b o :: es => (h.put b o).eff es
  | .push o :: es => (h.push o).eff es

abbrev CallF := FuncId → List Value → Hp → Option (Value × Hp)

/-- The function and the arguments of a call of a function value. -/
def target (ρ : Operand → Value) (c : Call) : Option (FuncId × List Value) :=
  match c.callee with
  | .value f => match ρ f with
    | .func (.func g) first captured => some (g, first.toList ++ c.args.toList.map ρ ++ captured.toList)
    | _ => none
  | _ => none

/-- One operation: its answer, the heap, the deferred calls. -/
def aStep (P : Program) (call : CallF) (o : Oper) (st : St) : Option (Value × Hp × List (FuncId × List Value)) :=
  match cls P o with
  | .pure => match opP P st.eval st.hp.sz o with
    | some (v, none) => some (v, st.hp, st.df)
    | some (v, some b) => some (v, st.hp.push b, st.df)
    | none => none
  | .read => match opR P st.eval st.hp.get o with
    | some v => some (v, st.hp, st.df)
    | none => none
  | .big => match opB P st.eval st.hp.sz st.hp.get o with
    | some (v, es) => some (v, st.hp.eff es, st.df)
    | none => match o.op with
      | .call c => match target st.eval c with
        | some (f, args) => match call f args st.hp with
          | some (v, h) => some (v, h, st.df)
          | none => none
        | none => none
      | .defer c => match target st.eval c with
        | some (f, args) => some (undef, st.hp, (f, args) :: st.df)
        | none => none
      | _ => none

/-- Is an operation to be done? -/
def aWanted (ops : Array Oper) (st : St) (o : Oper) : Bool :=
  match o.guard with
  | none => true
  | some (j, want) => match (ops[j]?).bind (·.dst) with
    | some t => match st.tm.get t with
      | some (.bool b) => b == want
      | _ => false
    | none => false

/-- What came of an operation, for the look behind a region that draws its order. -/
inductive Log where
  | read (j : Nat) (f : (Nat → Option Blk) → Option Value) (v : Value) : Log
  | big (i : Nat) (before after : Hp) : Log

def veq1 : Value → Value → Bool
  | .bool a, .bool b => a == b
  | .int k a, .int l b => decide (k = l) && a == b
  | .string a, .string b => strEq a b
  | .pointer none, .pointer none => true
  | .pointer (some a), .pointer (some b) => decide (a = b)
  | .slice none n c, .slice none m d => Nat.beq n m && Nat.beq c d
  | .slice (some a) n c, .slice (some b) m d => decide (a = b) && Nat.beq n m && Nat.beq c d
  | .map none, .map none => true
  | .map (some a), .map (some b) => Nat.beq a b
  | .nilFunc, .nilFunc => true
  | .nilIface, .nilIface => true
  | _, _ => false
def veqL : List Value → List Value → Bool
  | [], [] => true
  | a :: as, b :: bs => veq1 a b && veqL as bs
  | _, _ => false
def veq : Value → Value → Bool
  | .agg a, .agg b => veqL a.toList b.toList
  | .tuple a, .tuple b => veqL a.toList b.toList
  | .func (.func f) a b, .func (.func g) c d => Nat.beq f g && veqL a.toList c.toList && veqL b.toList d.toList
  | a, b => veq1 a b

def runOps (P : Program) (call : CallF) (ops : Array Oper) : List Oper → St → Option St
  | [], st => some st
  | o :: os, st => match aWanted ops st o with
    | false => runOps P call ops os (st.tput o.dst undef)
    | true => match aStep P call o st with
      | some (v, h, d) => runOps P call ops os ({ st with hp := h, df := d }.tput o.dst v)
      | none => none

def runLog (P : Program) (call : CallF) (ops : Array Oper) : List Oper → Nat → St → Option (St × List Log)
  | [], _, st => some (st, [])
  | o :: os, i, st => match aWanted ops st o with
    | false => runLog P call ops os (i + 1) (st.tput o.dst undef)
    | true => match aStep P call o st with
      | some (v, h, d) => match runLog P call ops os (i + 1) ({ st with hp := h, df := d }.tput o.dst v) with
        | some (st', l) => match cls P o with
          | .pure => some (st', l)
          | .read => some (st', .read i (fun get => opR P st.eval get o) v :: l)
          | .big => some (st', .big i st.hp h :: l)
        | none => none
      | none => none

def isRead (P : Program) (o : Oper) : Bool := match cls P o with | .read => true | _ => false
def isBig (P : Program) (o : Oper) : Bool := match cls P o with | .big => true | _ => false

/-- The reads and the greater operations whose order is open. -/
def floats (P : Program) (ops : Array Oper) : List (Nat × Nat) :=
  let b := Region.before ops
  (ops.toList.zipIdx.filter fun x => isRead P x.1).flatMap fun x =>
    ((ops.toList.zipIdx.filter fun y => isBig P y.1).filter fun y =>
      if x.2 < y.2 then !(b.getD y.2 0).testBit x.2 else !(b.getD x.2 0).testBit y.2).map fun y => (x.2, y.2)

def sameRead (f : (Nat → Option Blk) → Option Value) (v : Value) (h : Hp) : Bool :=
  match f h.get with
  | some u => veq u v
  | none => false

def pairOk (l : List Log) (p : Nat × Nat) : Bool :=
  l.all fun r => match r with
    | .read j f v => match Nat.beq j p.1 with
      | false => true
      | true => l.all fun g => match g with
        | .big i hb ha => match Nat.beq i p.2 with
          | false => true
          | true => match Nat.ble i j with
            | true => sameRead f v hb
            | false => sameRead f v ha
        | _ => true
    | _ => true

def aRegion (P : Program) (call : CallF) (ops : Array Oper) (draw : Bool) (st : St) : Option St :=
  match draw with
  | false => runOps P call ops ops.toList st
  | true => match floats P ops with
    | [] => runOps P call ops ops.toList st
    | ps => match runLog P call ops ops.toList 0 st with
      | some (st', l) => match ps.all (pairOk l) with
        | true => some st'
        | false => none
      | none => none

def exec (P : Program) (call : CallF) : Nat → Code → St → Option (Exit × St)
  | 0, _, _ => none
  | n + 1, c, st => match c with
    | .skip | .label _ => some (.normal, st)
    | .region _ ops draw => match aRegion P call ops draw st with
      | some st' => some (.normal, st')
      | none => none
    | .seq a b => match exec P call n a st with
      | some (.normal, st') => exec P call n b st'
      | r => r
    | .cond x a b => match st.eval x with
      | .bool true => exec P call n a st
      | .bool false => exec P call n b st
      | _ => none
    | .block id body => match exec P call n body st with
      | some (.exit i, st') => match Nat.beq i id with
        | true => some (.normal, st')
        | false => some (.exit i, st')
      | r => r
    | .loop body => match exec P call n body st with
      | some (.normal, st') => exec P call n (.loop body) st'
      | r => r
    | .scope body => exec P call n body st
    | .exit id => some (.exit id, st)
    | .ret => some (.ret, st)
    | _ => none

def resVar (P : Program) (st : St) : ResultVar → Option Value
  | .tmp t => some (st.tget t)
  | .cell a t => aLoad P st.hp.get t (st.tget a)
def resVars (P : Program) (st : St) : List ResultVar → Option (List Value)
  | [] => some []
  | r :: rs => match resVar P st r, resVars P st rs with
    | some v, some vs => some (v :: vs)
    | _, _ => none
def retVal (P : Program) (fn : Func) (st : St) : Option Value :=
  match resVars P st fn.results.toList with
  | some [v] => some v
  | some vs => some (.tuple vs.toArray)
  | none => none

def tmsOf : List Value → Nat → Tr Value → Tr Value
  | [], _, t => t
  | v :: vs, i, t => tmsOf vs (i + 1) (Tr.set v (i + 1) i t)

def runDf (call : CallF) : List (FuncId × List Value) → Hp → Option Hp
  | [], h => some h
  | d :: ds, h => match call d.1 d.2 h with
    | some (_, h') => runDf call ds h'
    | none => none

abbrev Ext := FuncId → Option (CallF → List Value → Hp → Option (Value × Hp))

/-- A function's body, to its end. -/
def aBody (P : Program) (call : CallF) (n : Nat) (fn : Func) (args : List Value) (h : Hp) : Option St :=
  match fn.body with
  | none => none
  | some c => match Nat.ble args.length fn.ntmps with
    | false => none
    | true => match exec P call n c ⟨tmsOf args 0 .leaf, h, []⟩ with
      | some (.normal, st) => some st
      | some (.ret, st) => some st
      | _ => none

/-- A deferred call: of a function that defers nothing itself. -/
def aPlain (P : Program) (ext : Ext) (call : CallF) (n : Nat) : CallF := fun f args h =>
  match ext f with
  | some _ => none
  | none => match P.funcs[f]? with
    | none => none
    | some fn => match aBody P call n fn args h with
      | none => none
      | some st => match st.df with
        | [] => (retVal P fn st).map fun v => (v, st.hp)
        | _ :: _ => none

def aCall (P : Program) (ext : Ext) : Nat → FuncId → List Value → Hp → Option (Value × Hp)
  | 0, _, _, _ => none
  | n + 1, f, args, h => match ext f with
    | some e => e (aCall P ext n) args h
    | none => match P.funcs[f]? with
      | none => none
      | some fn => match aBody P (aCall P ext n) n fn args h with
        | none => none
        | some st => match runDf (aPlain P ext (aCall P ext n) n) st.df st.hp with
          | some h' => (retVal P fn { st with hp := h' }).map fun v => (v, h')
          | none => none

/-! ### 2. What is asked of a function's text, once -/
def okConst : Operand → Bool
  | .tmp _ => true
  | .const v => plain v
  | .global _ => false
  | .func _ => true
def okOp (ntmps : Nat) (o : Oper) : Bool :=
  (match o.dst with | some d => decide (d < ntmps) | none => true) && o.op.operands.toList.all okConst
def tmpsOf (ops : Array Oper) (o : Oper) : List Tmp :=
  o.dst.toList ++ (o.op.operands.toList.filterMap fun | .tmp t => some t | _ => none) ++
    (match o.guard with | some (j, _) => ((ops[j]?).bind (·.dst)).toList | none => [])
/-- Two operations whose order is open: neither writes what the other one names, and not both are great. -/
def freeOk (P : Program) (ops : Array Oper) (x y : Oper) : Bool :=
  (match x.dst with | some d => !(tmpsOf ops y).contains d | none => true) &&
  (match y.dst with | some d => !(tmpsOf ops x).contains d | none => true) &&
  !(isBig P x && isBig P y)
def regSafe (P : Program) (ops : Array Oper) : Bool :=
  let b := Region.before ops
  ops.toList.zipIdx.all fun y =>
    (y.1.after.toList.all fun e => !Region.binds .any e || decide (e.on < y.2)) &&
    (match y.1.guard with | some (j, _) => decide (j < y.2) && (b.getD y.2 0).testBit j | none => true) &&
    (ops.toList.zipIdx.all fun x => !decide (x.2 < y.2) || (b.getD y.2 0).testBit x.2 || freeOk P ops x.1 y.1)
def codeSafe (P : Program) (n : Nat) : Code → Bool
  | .skip | .label _ | .exit _ | .ret => true
  | .region _ ops draw => ops.toList.all (okOp n) && (!draw || regSafe P ops)
  | .seq a b => codeSafe P n a && codeSafe P n b
  | .cond c a b => okConst c && codeSafe P n a && codeSafe P n b
  | .block _ b | .loop b | .scope b => codeSafe P n b
  | _ => false
def fnSafe (P : Program) (fn : Func) : Bool :=
  match fn.body with
  | none => false
  | some c => codeSafe P fn.ntmps c && !(fn.name == "runtime.NumGoroutine")
end Go.Proofs.Ytjecepaaalfilaa.AI
