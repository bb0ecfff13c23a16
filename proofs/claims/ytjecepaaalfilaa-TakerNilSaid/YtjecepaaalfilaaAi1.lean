/- The abstract interpreter: its data and its steps. A deterministic, computable reading of the model's programs, without a tape. -/
import Derived.Calls
import Derived.Defers
import Derived.Scope
import Derived.Below
set_option linter.unusedVariables false
set_option linter.unusedSimpArgs false
namespace Go.Proofs.Ytjecepaaalfilaa.AI
open Go

/-! ### 1. A tree of cells, by numbers -/
inductive Tr (α : Type) where
  | leaf : Tr α
  | node : Option α → Tr α → Tr α → Tr α

def Tr.get {α : Type} : Tr α → Nat → Option α
  | .leaf, _ => none
  | .node v _ _, 0 => v
  | .node _ l r, m + 1 => match Nat.beq (m % 2) 0 with
    | true => l.get (m / 2)
    | false => r.get (m / 2)

def Tr.set {α : Type} (v : α) : Nat → Nat → Tr α → Tr α
  | 0, _, t => t
  | _ + 1, 0, .leaf => .node (some v) .leaf .leaf
  | _ + 1, 0, .node _ l r => .node (some v) l r
  | f + 1, m + 1, .leaf => match Nat.beq (m % 2) 0 with
    | true => .node none (Tr.set v f (m / 2) .leaf) .leaf
    | false => .node none .leaf (Tr.set v f (m / 2) .leaf)
  | f + 1, m + 1, .node x l r => match Nat.beq (m % 2) 0 with
    | true => .node x (Tr.set v f (m / 2) l) r
    | false => .node x l (Tr.set v f (m / 2) r)

theorem Tr.get_leaf {α : Type} (n : Nat) : (Tr.leaf : Tr α).get n = none := rfl

theorem beq0 (n : Nat) : Nat.beq n 0 = decide (n = 0) := by cases n <;> simp [Nat.beq]

theorem half_if {α : Type} {m n : Nat} (h : m % 2 = 0 ↔ n % 2 = 0) (a b : α) : (if m / 2 = n / 2 then a else b) = if m + 1 = n + 1 then a else b := by
  by_cases e : m / 2 = n / 2
  · rw [if_pos e, if_pos (by omega)]
  · rw [if_neg e, if_neg (by omega)]

theorem Tr.get_set {α : Type} (v : α) : ∀ (f n : Nat) (t : Tr α) (m : Nat), n < f → (Tr.set v f n t).get m = if m = n then some v else t.get m
  | 0, n, t, m, h => absurd h (by omega)
  | f + 1, 0, .leaf, m, _ => by
    cases m with
    | zero => rfl
    | succ m => simp only [Tr.set, Tr.get]; cases Nat.beq (m % 2) 0 <;> simp
  | f + 1, 0, .node _ l r, m, _ => by
    cases m with
    | zero => rfl
    | succ m => simp only [Tr.set, Tr.get]; simp
  | f + 1, n + 1, .leaf, m, h => by
    have ih := fun t m => Tr.get_set v f (n / 2) t m (by omega)
    cases m with
    | zero => simp only [Tr.set]; cases Nat.beq (n % 2) 0 <;> simp [Tr.get]
    | succ m =>
      simp only [Tr.set, beq0]
      by_cases hn : n % 2 = 0 <;> by_cases hm : m % 2 = 0 <;> simp only [hn, hm, decide_true, decide_false, Tr.get, beq0, ih]
      · exact half_if (by omega) _ _
      · rw [if_neg (by omega)]
      · rw [if_neg (by omega)]
      · exact half_if (by omega) _ _
  | f + 1, n + 1, .node x l r, m, h => by
    have ih := fun t m => Tr.get_set v f (n / 2) t m (by omega)
    cases m with
    | zero => simp only [Tr.set]; cases Nat.beq (n % 2) 0 <;> simp [Tr.get]
    | succ m =>
      simp only [Tr.set, beq0]
      by_cases hn : n % 2 = 0 <;> by_cases hm : m % 2 = 0 <;> simp only [hn, hm, decide_true, decide_false, Tr.get, beq0, ih]
      · exact half_if (by omega) _ _
      · rw [if_neg (by omega)]
      · rw [if_neg (by omega)]
      · exact half_if (by omega) _ _

/-! ### 2. Blocks and heaps. A row: its element type, its cells, and whether it must not be written. A block that is dead is never looked at again. -/
inductive Blk where
  | cells (ty : TypeId) (cs : List Value) (ro : Bool) : Blk
  | map (es : List (Value × Value × Nat)) (clock : Nat) (ro : Bool) : Blk
  | dead : Blk

structure Hp where
  sz : Nat
  tr : Tr Blk

def Hp.get (h : Hp) (b : Nat) : Option Blk := h.tr.get b
def Hp.push (h : Hp) (o : Blk) : Hp := ⟨h.sz + 1, Tr.set o (h.sz + 1) h.sz h.tr⟩
def Hp.put (h : Hp) (b : Nat) (o : Blk) : Hp := ⟨h.sz, Tr.set o (b + 1) b h.tr⟩
theorem Hp.get_push (h : Hp) (o : Blk) (b : Nat) : (h.push o).get b = if b = h.sz then some o else h.get b := Tr.get_set _ _ _ _ _ (by omega)
theorem Hp.get_put (h : Hp) (c : Nat) (o : Blk) (b : Nat) : (h.put c o).get b = if b = c then some o else h.get b := Tr.get_set _ _ _ _ _ (by omega)
theorem Hp.sz_push (h : Hp) (o : Blk) : (h.push o).sz = h.sz + 1 := rfl
theorem Hp.sz_put (h : Hp) (c : Nat) (o : Blk) : (h.put c o).sz = h.sz := rfl

/-- A frame: its temporaries, the heap, the deferred calls. -/
structure St where
  tm : Tr Value
  hp : Hp
  df : List (FuncId × List Value)

def St.tget (s : St) (t : Nat) : Value := (s.tm.get t).getD undef
def St.tput (s : St) (d : Option Tmp) (v : Value) : St :=
  match d with
  | some t => { s with tm := Tr.set v (t + 1) t s.tm }
  | none => s
def St.eval (s : St) : Operand → Value
  | .tmp t => s.tget t
  | .const v => v
  | .global _ => undef
  | .func f => .func (.func f) #[] #[]

/-! ### 3. Values without addresses -/
/-- One cell's value, and no address in it. -/
def flat : Value → Bool
  | .bool _ | .int _ _ | .string _ | .pointer none | .slice none 0 0 | .map none | .nilFunc | .nilIface => true
  | _ => false
/-- No address in it. -/
def plain : Value → Bool
  | .agg cs => cs.toList.all flat
  | .func (.func _) a b => a.isEmpty && b.isEmpty
  | v => flat v
def isOne : Value → Bool
  | .agg _ | .tuple _ => false
  | _ => true
def cellsL : Value → List Value
  | .agg cs => cs.toList
  | v => [v]

/-! ### 4. Types -/
def tsize (P : Program) (t : TypeId) : Option Nat := (P.info? t).map (·.size)
def tzero (P : Program) (t : TypeId) : Option (List Value) :=
  match (P.info? t).bind (·.zero) with
  | some v => match (cellsL v).all flat with
    | true => some (cellsL v)
    | false => none
  | none => none
def tagg (P : Program) (t : TypeId) : Option Bool :=
  match P.underlying t with
  | some (.struct _) | some (.array _ _) => some true
  | some _ => some false
  | none => none

/-- A part of an aggregate. -/
def partA (P : Program) (t : TypeId) (cs : Array Value) (off : Nat) : Option Value :=
  match tagg P t, tsize P t with
  | some true, some n => some (.agg (cs.extract off (off + n)))
  | some false, some _ => cs[off]?
  | _, _ => none
end Go.Proofs.Ytjecepaaalfilaa.AI
