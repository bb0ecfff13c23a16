/- The abstract interpreter: functions without a body (atomic cells), and the whole call. -/
import Derived.Test.YtjecepaaalfilaaAi3
set_option linter.unusedVariables false
set_option linter.unusedSimpArgs false
namespace Go.Proofs.Ytjecepaaalfilaa.AI
open Go

/-- A cell that is read or written as a whole. -/
def cellAt (h : Hp) (a : Addr) : Option Value :=
  match h.get a.block with
  | some (.cells _ cs _) => cs[a.off]?
  | _ => none
def cellPut (h : Hp) (a : Addr) (v : Value) : Option Hp :=
  match h.get a.block with
  | some (.cells ty cs false) => if a.off < cs.length && isOne v then some (h.put a.block (.cells ty (putL cs a.off [v]) false)) else none
  | _ => none

def atLoad (k : IntKind) : CallF → List Value → Hp → Option (Value × Hp)
  | _, [.pointer (some a)], h => match cellAt h a with
    | some (.int k' n) => if k' = k then some (.int k' n, h) else none
    | _ => none
  | _, _, _ => none
def atStore : CallF → List Value → Hp → Option (Value × Hp)
  | _, [.pointer (some a), v], h => (cellPut h a v).map fun h' => (.tuple #[], h')
  | _, _, _ => none
def atAdd (k : IntKind) : CallF → List Value → Hp → Option (Value × Hp)
  | _, [.pointer (some a), .int k1 d], h => match cellAt h a with
    | some (.int k' n) => if k' = k ∧ k1 = k then (cellPut h a (.int k (wrapF k (n + d)))).map fun h' => (.int k (wrapF k (n + d)), h') else none
    | _ => none
  | _, _, _ => none
def atCas (k : IntKind) : CallF → List Value → Hp → Option (Value × Hp)
  | _, [.pointer (some a), .int k1 old, .int k2 new], h => match cellAt h a with
    | some (.int k' n) => if k' = k ∧ k1 = k ∧ k2 = k then (match decide (n = old), h.get a.block with
      | true, _ => (cellPut h a (.int k new)).map fun h' => (.bool true, h')
      | false, some (.cells _ _ false) => some (.bool false, h)
      | _, _ => none) else none
    | _ => none
  | _, _, _ => none
def stuckE : CallF → List Value → Hp → Option (Value × Hp) := fun _ _ _ => none
def noneE : CallF → List Value → Hp → Option (Value × Hp)
  | _, [], h => some (.tuple #[], h)
  | _, _, _ => none
def markE : CallF → List Value → Hp → Option (Value × Hp)
  | _, [.pointer (some _)], h => some (.tuple #[], h)
  | _, _, _ => none

/-- Which of these a name means. -/
def atoms : List (String × (CallF → List Value → Hp → Option (Value × Hp))) :=
  [("sync/atomic.LoadInt32", atLoad .i32), ("sync/atomic.LoadInt64", atLoad .i64), ("sync/atomic.LoadUint32", atLoad .u32), ("sync/atomic.LoadUint64", atLoad .u64),
   ("sync/atomic.StoreInt32", atStore), ("sync/atomic.StoreInt64", atStore), ("sync/atomic.StoreUint32", atStore), ("sync/atomic.StoreUint64", atStore),
   ("sync/atomic.AddInt32", atAdd .i32), ("sync/atomic.AddInt64", atAdd .i64), ("sync/atomic.CompareAndSwapInt32", atCas .i32), ("sync/atomic.CompareAndSwapUint32", atCas .u32),
   ("internal/race.Disable", noneE), ("internal/race.Enable", noneE), ("internal/race.Acquire", markE), ("internal/race.ReleaseMerge", markE)]
def atomIn (name : String) : List (String × (CallF → List Value → Hp → Option (Value × Hp))) → Option (CallF → List Value → Hp → Option (Value × Hp))
  | [] => none
  | (n, e) :: r => match decide (name = n) with
    | true => some e
    | false => atomIn name r

def extOf (P : Program) : Ext := fun f =>
  match P.funcs[f]? with
  | none => some stuckE
  | some fn => match fn.body with
    | none => match decide (fn.origin = "") with
      | true => match atomIn fn.name atoms with
        | some e => some e
        | none => some stuckE
      | false => some stuckE
    | some _ => match fnSafe P fn with
      | true => none
      | false => some stuckE
end Go.Proofs.Ytjecepaaalfilaa.AI
