/- Part 1. -/
import Derived.Calls
import Derived.Defers
import Derived.Scope
import Derived.Below
import Derived.Laws.Sem
import Derived.Laws.Strings
import Derived.Lib.Strings
import Derived.Laws.StructEq
import Derived.Laws.Entries
import Derived.Laws.BytesArg
import Derived.Lib.ConvBytes
import Derived.LoopN
set_option linter.unusedVariables false
set_option linter.unusedSimpArgs false
set_option maxRecDepth 100000
namespace Go.Proofs.Ytbhmodlpolgklaa.AI
open Go
inductive Tr (α : Type) where
  | leaf : Tr α
  | node : Option α → Tr α → Tr α → Tr α
def Tr.get {α : Type} : Tr α → Nat → Option α
  | .leaf, _ => none
  | .node v _ _, 0 => v
  | .node _ l r, m + 1 => match Nat.beq (m % 2) 0 with
    | true => l.get (m / 2)
    | false => r.get (m / 2)
def Tr.set {α : Type} (v : α) : Nat → Nat → Tr α → Tr α
  | 0, _, t => t
  | _ + 1, 0, .leaf => .node (some v) .leaf .leaf
  | _ + 1, 0, .node _ l r => .node (some v) l r
  | f + 1, m + 1, .leaf => match Nat.beq (m % 2) 0 with
    | true => .node none (Tr.set v f (m / 2) .leaf) .leaf
    | false => .node none .leaf (Tr.set v f (m / 2) .leaf)
  | f + 1, m + 1, .node x l r => match Nat.beq (m % 2) 0 with
    | true => .node x (Tr.set v f (m / 2) l) r
    | false => .node x l (Tr.set v f (m / 2) r)
theorem Tr.get_leaf {α : Type} (n : Nat) : (Tr.leaf : Tr α).get n = none := rfl
theorem beq0 (n : Nat) : Nat.beq n 0 = decide (n = 0) := by cases n <;> simp [Nat.beq]
theorem half_if {α : Type} {m n : Nat} (h : m % 2 = 0 ↔ n % 2 = 0) (a b : α) : (if m / 2 = n / 2 then a else b) = if m + 1 = n + 1 then a else b := by
  by_cases e : m / 2 = n / 2
  · rw [if_pos e, if_pos (by omega)]
  · rw [if_neg e, if_neg (by omega)]
theorem Tr.get_set {α : Type} (v : α) : ∀ (f n : Nat) (t : Tr α) (m : Nat), n < f → (Tr.set v f n t).get m = if m = n then some v else t.get m
  | 0, n, t, m, h => absurd h (by omega)
  | f + 1, 0, .leaf, m, _ => by
    cases m with
    | zero => rfl
    | succ m => simp only [Tr.set, Tr.get]; cases Nat.beq (m % 2) 0 <;> simp
  | f + 1, 0, .node _ l r, m, _ => by
    cases m with
    | zero => rfl
    | succ m => simp only [Tr.set, Tr.get]; simp
  | f + 1, n + 1, .leaf, m, h => by
    have ih := fun t m => Tr.get_set v f (n / 2) t m (by omega)
    cases m with
    | zero => simp only [Tr.set]; cases Nat.beq (n % 2) 0 <;> simp [Tr.get]
    | succ m =>
      simp only [Tr.set, beq0]
      by_cases hn : n % 2 = 0 <;> by_cases hm : m % 2 = 0 <;> simp only [hn, hm, decide_true, decide_false, Tr.get, beq0, ih]
      · exact half_if (by omega) _ _
      · rw [if_neg (by omega)]
      · rw [if_neg (by omega)]
      · exact half_if (by omega) _ _
  | f + 1, n + 1, .node x l r, m, h => by
    have ih := fun t m => Tr.get_set v f (n / 2) t m (by omega)
    cases m with
    | zero => simp only [Tr.set]; cases Nat.beq (n % 2) 0 <;> simp [Tr.get]
    | succ m =>
      simp only [Tr.set, beq0]
      by_cases hn : n % 2 = 0 <;> by_cases hm : m % 2 = 0 <;> simp only [hn, hm, decide_true, decide_false, Tr.get, beq0, ih]
      · exact half_if (by omega) _ _
      · rw [if_neg (by omega)]
      · rw [if_neg (by omega)]
      · exact half_if (by omega) _ _
inductive Blk where
  | cells (ty : TypeId) (cs : List Value) (ro : Bool) : Blk
  | map (es : List (Value × Value × Nat)) (clock : Nat) (ro : Bool) : Blk
  | dead : Blk
structure Hp where
  sz : Nat
  tr : Tr Blk
def Hp.get (h : Hp) (b : Nat) : Option Blk := h.tr.get b
def Hp.push (h : Hp) (o : Blk) : Hp := ⟨h.sz + 1, Tr.set o (h.sz + 1) h.sz h.tr⟩
def Hp.put (h : Hp) (b : Nat) (o : Blk) : Hp := ⟨h.sz, Tr.set o (b + 1) b h.tr⟩
theorem Hp.get_push (h : Hp) (o : Blk) (b : Nat) : (h.push o).get b = if b = h.sz then some o else h.get b := Tr.get_set _ _ _ _ _ (by omega)
theorem Hp.get_put (h : Hp) (c : Nat) (o : Blk) (b : Nat) : (h.put c o).get b = if b = c then some o else h.get b := Tr.get_set _ _ _ _ _ (by omega)
theorem Hp.sz_push (h : Hp) (o : Blk) : (h.push o).sz = h.sz + 1 := rfl
theorem Hp.sz_put (h : Hp) (c : Nat) (o : Blk) : (h.put c o).sz = h.sz := rfl
structure St where
  tm : Tr Value
  hp : Hp
  df : List (FuncId × List Value)
def St.tget (s : St) (t : Nat) : Value := (s.tm.get t).getD undef
def St.tput (s : St) (d : Option Tmp) (v : Value) : St :=
  match d with
  | some t => { s with tm := Tr.set v (t + 1) t s.tm }
  | none => s
def St.eval (s : St) : Operand → Value
  | .tmp t => s.tget t
  | .const v => v
  | .global _ => undef
  | .func f => .func (.func f) #[] #[]
def flat : Value → Bool
  | .bool _ | .int _ _ | .string _ | .pointer none | .slice none 0 0 | .map none | .nilFunc | .nilIface => true
  | _ => false
def plain : Value → Bool
  | .agg cs => cs.toList.all flat
  | .func (.func _) a b => a.isEmpty && b.isEmpty
  | v => flat v
def isOne : Value → Bool
  | .agg _ | .tuple _ | .chan none => false
  | _ => true
def isJunk : Value → Bool
  | .chan none => true
  | _ => false
abbrev LIT (n : Nat) (ty : TypeId) (cs : List Value) : Value := .iface n (.iface ty (.agg ⟨cs⟩))
abbrev BAG (n : Nat) (ty : TypeId) (cs : List Value) : Value := .iface n (.iface ty (.tuple ⟨cs⟩))
def cellsL : Value → List Value
  | .agg cs => cs.toList
  | v => [v]
def tsize (P : Program) (t : TypeId) : Option Nat := (P.info? t).map (·.size)
def tzero (P : Program) (t : TypeId) : Option (List Value) :=
  match (P.info? t).bind (·.zero) with
  | some v => match (cellsL v).all flat with
    | true => some (cellsL v)
    | false => none
  | none => none
def tagg (P : Program) (t : TypeId) : Option Bool :=
  match P.underlying t with
  | some (.struct _) | some (.array _ _) => some true
  | some _ => some false
  | none => none
def partA (P : Program) (t : TypeId) (cs : Array Value) (off : Nat) : Option Value :=
  match tagg P t, tsize P t with
  | some true, some n => some (.agg (cs.extract off (off + n)))
  | some false, some _ => cs[off]?
  | _, _ => none
end Go.Proofs.Ytbhmodlpolgklaa.AI
namespace Go.Proofs.Ytbhmodlpolgklaa.AI
open Go
def inR : IntKind → Int → Bool
  | .i64, n => decide (-9223372036854775808 ≤ n) && decide (n ≤ 9223372036854775807)
  | .u8, n => decide (0 ≤ n) && decide (n ≤ 255)
  | _, _ => false
def wrapF (k : IntKind) (n : Int) : Int :=
  match inR k n with
  | true => n
  | false => k.wrap n
def strCat (x y : ByteArray) : ByteArray := ⟨(x.data.toList ++ y.data.toList).toArray⟩
def strEq (x y : ByteArray) : Bool := x.data.toList == y.data.toList
def aBinI (op : BinOp) (k : IntKind) (a b : Int) : Option Value :=
  match op with
  | .add => some (.int k (wrapF k (a + b)))
  | .sub => some (.int k (wrapF k (a - b)))
  | .mul => some (.int k (wrapF k (a * b)))
  | .quo => if b = 0 then none else some (.int k (wrapF k (a.tdiv b)))
  | .rem => if b = 0 then none else some (.int k (a.tmod b))
  | .and => some (.int k (k.wrap (BitVec.ofInt k.bits a &&& BitVec.ofInt k.bits b).toNat))
  | .or => some (.int k (k.wrap (BitVec.ofInt k.bits a ||| BitVec.ofInt k.bits b).toNat))
  | .xor => some (.int k (k.wrap (BitVec.ofInt k.bits a ^^^ BitVec.ofInt k.bits b).toNat))
  | .andNot => some (.int k (k.wrap (BitVec.ofInt k.bits a &&& ~~~ BitVec.ofInt k.bits b).toNat))
  | .eql => some (.bool (a == b))
  | .neq => some (.bool (a != b))
  | .lss => some (.bool (decide (a < b)))
  | .leq => some (.bool (decide (a ≤ b)))
  | .gtr => some (.bool (decide (a > b)))
  | .geq => some (.bool (decide (a ≥ b)))
  | _ => none
def aShift (op : BinOp) (k : IntKind) (a b : Int) : Option Value :=
  if b < 0 then none else
  match op with
  | .shl => some (.int k (wrapF k (a * 2 ^ (min b.toNat k.bits))))
  | .shr => some (.int k (a.fdiv (2 ^ (min b.toNat k.bits))))
  | _ => none
def aBinS (op : BinOp) (x y : ByteArray) : Option Value :=
  match op with
  | .add => if x.size + y.size ≤ 2147483647 then some (.string (strCat x y)) else none
  | .eql => some (.bool (strEq x y))
  | .neq => some (.bool (!strEq x y))
  | .lss => some (.bool (Op.bytesLess x.data.toList y.data.toList))
  | .leq => some (.bool (Op.bytesLess x.data.toList y.data.toList || strEq x y))
  | .gtr => some (.bool (!(Op.bytesLess x.data.toList y.data.toList || strEq x y)))
  | .geq => some (.bool (!(Op.bytesLess x.data.toList y.data.toList)))
  | _ => none
def aEq (P : Program) : Nat → TypeId → Value → Value → Option Bool
  | 0, _, _, _ => none
  | d + 1, t, x, y =>
    match P.underlying t, x, y with
    | some .bool, .bool a, .bool b => some (a == b)
    | some (.int _), .int k a, .int k' b => if k = k' then some (a == b) else none
    | some .string, .string a, .string b => some (strEq a b)
    | some (.pointer _), .pointer none, .pointer b => some b.isNone
    | some (.pointer _), .pointer (some _), .pointer none => some false
    | some (.slice _), .slice none _ _, .slice b _ _ => some b.isNone
    | some (.slice _), .slice (some _) _ _, .slice none _ _ => some false
    | some (.map _ _), .map none, .map b => some b.isNone
    | some (.map _ _), .map (some _), .map none => some false
    | some (.func _ _ _), .nilFunc, .nilFunc => some true
    | some (.func _ _ _), .nilFunc, .func _ _ _ => some false
    | some (.func _ _ _), .func _ _ _, .nilFunc => some false
    | some (.struct fs), .agg xs, .agg ys =>
      match P.stoodInHeld t with
      | true => none
      | false => fs.toList.foldr (fun f acc => match f.name == "_" with
        | true => acc
        | false => match partA P f.type xs f.offset, partA P f.type ys f.offset with
          | some a, some b => match aEq P d f.type a b with
            | some true => acc
            | some false => some false
            | none => none
          | _, _ => none) (some true)
    | _, _, _ => none
def eqKind : Value → Bool
  | .bool _ | .pointer _ | .slice .. | .map _ | .func .. | .nilFunc => true
  | _ => false
def aBin (P : Program) (op : BinOp) (t : TypeId) (x y : Value) : Option Value :=
  match x, y with
  | .int k a, .int k' b =>
    match op with
    | .shl => aShift .shl k a b
    | .shr => aShift .shr k a b
    | op => if k = k' then aBinI op k a b else none
  | .string a, .string b => aBinS op a b
  | .agg xs, .agg ys =>
    match P.eqGuardType P.depth t with
    | true => none
    | false => match op with
      | .eql => (aEq P 30 t (.agg xs) (.agg ys)).map .bool
      | .neq => (aEq P 30 t (.agg xs) (.agg ys)).map fun b => .bool !b
      | _ => none
  | x, y => match eqKind x && eqKind y with
    | false => none
    | true => match op with
      | .eql => (aEq P 30 t x y).map .bool
      | .neq => (aEq P 30 t x y).map fun b => .bool !b
      | _ => none
def aUn (op : UnOp) (x : Value) : Option Value :=
  match op, x with
  | .not, .bool b => some (.bool !b)
  | .neg, .int k n => some (.int k (wrapF k (0 - n)))
  | _, _ => none
def aConv (P : Program) (src dst : TypeId) (x : Value) : Option Value :=
  match P.underlying src, P.underlying dst, x with
  | some _, some (.int k), .int _ n => some (.int k (wrapF k n))
  | some _, some .string, .string s => some (.string s)
  | _, _, _ => none
def putL : List Value → Nat → List Value → List Value
  | [], _, _ => []
  | c :: cs, 0, [] => c :: cs
  | _ :: cs, 0, v :: vs => v :: putL cs 0 vs
  | c :: cs, n + 1, vs => c :: putL cs n vs
def aFill (place : Nat → Option (Nat × Nat)) (cells : List Value) : List (Nat × Value) → Option (List Value)
  | [] => some cells
  | (i, v) :: rest =>
    match place i with
    | none => none
    | some (off, size) =>
      if isJunk v || (cellsL v).length ≠ size || off + (cellsL v).length > cells.length then none
      else aFill place (putL cells off (cellsL v)) rest
def placesOf (P : Program) : List Field → Option (List (Nat × Nat))
  | [] => some []
  | f :: fs => match tsize P f.type, placesOf P fs with
    | some n, some r => some ((f.offset, n) :: r)
    | _, _ => none
def aBuild (P : Program) (t : TypeId) (parts : List (Nat × Value)) : Option Value :=
  match tzero P t with
  | none => none
  | some zero =>
    match P.underlying t with
    | some (.struct fields) => match placesOf P fields.toList with
      | none => none
      | some places => (aFill (places[·]?) zero parts).map fun cs => .agg cs.toArray
    | some (.array _ elem) => match tsize P elem with
      | none => none
      | some size => (aFill (fun i => some (i * size, size)) zero parts).map fun cs => .agg cs.toArray
    | _ => none
def repL (zero : List Value) : Nat → List Value
  | 0 => []
  | n + 1 => zero ++ repL zero n
def flagOf (c : Nat) : Nat := c % 3
def spareOf (c : Nat) : Nat := match c % 3 with
  | 0 => c / 3 / 1000000
  | _ => 0
def wide (c : Nat) : Nat := c / 3
def aBuildSlice (P : Program) (sz : Nat) (t : TypeId) (len : Nat) (parts : List (Nat × Value)) : Option (Value × Blk) :=
  match P.underlying t with
  | some (.slice elem) => match tsize P elem, tzero P elem with
    | some size, some zero =>
      if size = 0 || zero.length ≠ size || len * size > 16777216 then none else
      (aFill (fun i => some (i * size, size)) (repL zero len) parts).map fun cs => (.slice (some ⟨sz, 0, none⟩) len (3 * size + 1), .cells elem cs false)
    | _, _ => none
  | _ => none
def aMakeSlice (P : Program) (sz : Nat) (t : TypeId) (len cap : Value) : Option (Value × Blk) :=
  match P.underlying t, len, cap with
  | some (.slice elem), .int _ l, .int _ c => match P.info? elem, tzero P elem with
    | some i, some zero =>
      if i.size = 0 || zero.length ≠ i.size || l < 0 || l > c || c > 2147483647 || i.bytes > 32768 then none else
      some (.slice (some ⟨sz, 0, none⟩) l.toNat (3 * i.size + 1), .cells elem (repL zero c.toNat) false)
    | _, _ => none
  | _, _, _ => none
def aFieldAddr (P : Program) (s : TypeId) (x : Value) (field : Nat) : Option Value :=
  match P.underlying s, x with
  | some (.struct fields), .pointer (some a) => match fields[field]? with
    | some f => match tsize P f.type with
      | some 0 => none
      | some _ => some (.pointer (some ⟨a.block, a.off + f.offset, none⟩))
      | none => none
    | none => none
  | _, _ => none
def aIndexAddr (P : Program) (t : TypeId) (x index : Value) : Option Value :=
  match index with
  | .int _ i => match P.underlying t, x with
    | some (.array len elem), .pointer (some a) => match tsize P elem with
      | some size => if 0 ≤ i ∧ i < len then some (.pointer (some ⟨a.block, a.off + i.toNat * size, none⟩)) else none
      | none => none
    | some (.slice elem), .slice (some a) len _ => match tsize P elem with
      | some size => if 0 ≤ i ∧ i < len then some (.pointer (some ⟨a.block, a.off + i.toNat * size, none⟩)) else none
      | none => none
    | _, _ => none
  | _ => none
def aIndex (P : Program) (t : TypeId) (x index : Value) : Option Value :=
  match index with
  | .int _ i => match P.underlying t, x with
    | some (.array len elem), .agg cs => match tsize P elem with
      | some size => if 0 ≤ i ∧ i < len then partA P elem cs (i.toNat * size) else none
      | none => none
    | some .string, .string s => if 0 ≤ i then (s.data.toList[i.toNat]?).map fun b => .int .u8 b.toNat else none
    | _, _ => none
  | _ => none
def aField (P : Program) (t : TypeId) (x : Value) (field : Nat) : Option Value :=
  match P.underlying t, x with
  | some (.struct fields), .agg cs => match fields[field]? with
    | some f => partA P f.type cs f.offset
    | none => none
  | _, _ => none
def bound (x : Option Value) (d m : Nat) : Option Nat :=
  match x with
  | none => some d
  | some (.int _ i) => if 0 ≤ i ∧ i ≤ m then some i.toNat else none
  | _ => none
def aSlice (P : Program) (t : TypeId) (x : Value) (lo hi mx : Option Value) : Option Value :=
  match P.underlying t, x with
  | some .string, .string s => match mx with
    | some _ => none
    | none => match bound hi s.size s.size with
      | none => none
      | some h => match bound lo 0 h with
        | none => none
        | some l => some (.string ⟨((s.data.toList.drop l).take (h - l)).toArray⟩)
  | some (.slice elem), .slice none 0 0 => match tsize P elem, bound hi 0 0, bound lo 0 0, bound mx 0 0 with
    | some _, some _, some _, some _ => if hi.isNone && mx.isSome then none else some (.slice none 0 0)
    | _, _, _, _ => none
  | some (.slice elem), .slice (some a) len c => match tsize P elem with
    | none => none
    | some size => match mx with
      | none => match bound hi len (len + spareOf c) with
        | none => none
        | some h => match bound lo 0 h with
          | none => none
          | some l => some (.slice (some ⟨a.block, a.off + l * size, none⟩) (h - l)
              (if flagOf c = 1 ∧ wide c = size then c else if flagOf c = 0 then 3 * (wide c % 1000000 + 1000000 * (len + spareOf c - h)) else 3 * size + 2))
      | some m => match bound (some m) len len, hi with
        | some m, some hi => match bound (some hi) len m with
          | none => none
          | some h => match bound lo 0 h with
            | none => none
            | some l => some (.slice (some ⟨a.block, a.off + l * size, none⟩) (h - l) (if h = m ∧ size < 1000000 then 3 * size else 3 * size + 2))
        | _, _ => none
  | _, _ => none
def aLen (P : Program) (t : TypeId) (x : Value) : Option Value :=
  match P.underlying t, x with
  | some .string, .string s => some (goInt s.size)
  | some (.slice _), .slice _ n _ => some (goInt n)
  | some (.slice _), .chan (some n) => some (goInt n)
  | some (.slice _), .iface n (.iface _ (.agg _)) => some (goInt n)
  | some (.slice _), .iface n (.iface _ (.tuple _)) => some (goInt n)
  | some (.map _ _), .map none => some (goInt 0)
  | _, _ => none
def aCap (P : Program) (t : TypeId) (x : Value) : Option Value :=
  match P.underlying t, x with
  | some (.slice _), .slice none 0 0 => some (goInt 0)
  | some (.slice _), .slice (some _) n c => match c % 3 with
    | 0 => some (goInt (n + c / 3 / 1000000))
    | _ => none
  | _, _ => none
def foldMin : Value → List Value → Option Value
  | v, [] => some v
  | .int k x, .int _ y :: r => foldMin (.int k (if y < x then y else x)) r
  | _, _ => none
def foldMax : Value → List Value → Option Value
  | v, [] => some v
  | .int k x, .int _ y :: r => foldMax (.int k (if y > x then y else x)) r
  | _, _ => none
def aPureCall (P : Program) (b : Builtin) (types : List TypeId) (args : List Value) : Option Value :=
  match b, types, args with
  | .len, t :: _, x :: _ => aLen P t x
  | .cap, t :: _, x :: _ => aCap P t x
  | .min, _, x :: r => foldMin x r
  | .max, _, x :: r => foldMax x r
  | _, _, _ => none
def ptr0 (b : Nat) : Value := .pointer (some ⟨b, 0, none⟩)
def opP (P : Program) (ρ : Operand → Value) (sz : Nat) (o : Oper) : Option (Value × Option Blk) :=
  match o.op with
  | .move x | .assign x => some (ρ x, none)
  | .pick c a b => match ρ c with
    | .bool true => some (ρ a, none)
    | .bool false => some (ρ b, none)
    | _ => none
  | .alloc elem => (tzero P elem).map fun z => (ptr0 sz, some (.cells elem z false))
  | .box elem x => match isJunk (ρ x) with
    | false => some (ptr0 sz, some (.cells elem (cellsL (ρ x)) false))
    | true => none
  | .build t parts => (aBuild P t (parts.toList.map fun p => (p.1, ρ p.2))).map fun v => (v, none)
  | .buildSlice t len parts => (aBuildSlice P sz t len (parts.toList.map fun p => (p.1, ρ p.2))).map fun r => (r.1, some r.2)
  | .nilCheck x => match ρ x with
    | .pointer (some a) => some (.pointer (some a), none)
    | _ => none
  | .binOp op t x y _ => (aBin P op t (ρ x) (ρ y)).map fun v => (v, none)
  | .unOp op _ x => (aUn op (ρ x)).map fun v => (v, none)
  | .convert src dst x => (aConv P src dst (ρ x)).map fun v => (v, none)
  | .makeFunc (.func f) first captured => some (.func (.func f) (first.map ρ) (captured.map ρ), none)
  | .makeMap _ none => some (.map (some sz), some (.map [] 0 false))
  | .makeSlice t l c => (aMakeSlice P sz t (ρ l) (ρ c)).map fun r => (r.1, some r.2)
  | .slice t x lo hi mx => (aSlice P t (ρ x) (lo.map ρ) (hi.map ρ) (mx.map ρ)).map fun v => (v, none)
  | .fieldAddr s x f => (aFieldAddr P s (ρ x) f).map fun v => (v, none)
  | .field t x f => (aField P t (ρ x) f).map fun v => (v, none)
  | .indexAddr t x ix => (aIndexAddr P t (ρ x) (ρ ix)).map fun v => (v, none)
  | .index t x ix => (aIndex P t (ρ x) (ρ ix)).map fun v => (v, none)
  | .extract t ix => match ρ t with
    | .tuple vs => (vs[ix]?).map fun v => (v, none)
    | _ => none
  | .call c => match c.callee with
    | .builtin b => (aPureCall P b c.argTypes.toList (c.args.toList.map ρ)).map fun v => (v, none)
    | _ => none
  | _ => none
def getR (cs : List Value) (off n : Nat) : Option (List Value) :=
  if ((cs.drop off).take n).length = n then some ((cs.drop off).take n) else none
def aLoad (P : Program) (get : Nat → Option Blk) (t : TypeId) (x : Value) : Option Value :=
  match x with
  | .pointer (some a) => match get a.block with
    | some (.cells _ cs _) => match tagg P t, tsize P t with
      | some true, some n => (getR cs a.off n).map fun r => .agg r.toArray
      | some false, some _ => cs[a.off]?
      | _, _ => none
    | _ => none
  | _ => none
def keyEq : TypeDesc → Value → Value → Option Bool
  | .int _, .int k a, .int k' b => if k = k' then some (a == b) else none
  | .string, .string a, .string b => some (strEq a b)
  | .bool, .bool a, .bool b => some (a == b)
  | _, _, _ => none
def keyKind (P : Program) (t : TypeId) : Option TypeDesc :=
  match P.underlying t with
  | some (.int k) => some (.int k)
  | some .string => some .string
  | some .bool => some .bool
  | _ => none
def findE (d : TypeDesc) (k : Value) : List (Value × Value × Nat) → Nat → Option (Option (Nat × Value))
  | [], _ => some none
  | e :: es, i => match keyEq d k e.1 with
    | some true => some (some (i, e.2.1))
    | some false => findE d k es (i + 1)
    | none => none
def aLookup (P : Program) (get : Nat → Option Blk) (t : TypeId) (x k : Value) (ok : Bool) : Option Value :=
  match P.underlying t with
  | some (.map key elem) => match keyKind P key, (P.info? elem).bind (·.zero) with
    | some d, some z =>
      if plain z && flat k then
        match (match x with | .map none => some [] | .map (some r) => (match get r with | some (.map es _ _) => some es | _ => none) | _ => none) with
        | none => none
        | some es => match findE d k es 0 with
          | none => none
          | some (some (_, v)) => some (if ok then .tuple #[v, .bool true] else v)
          | some none => some (if ok then .tuple #[z, .bool false] else z)
      else none
    | _, _ => none
  | _ => none
def bytesOf : List Value → Option (List UInt8)
  | [] => some []
  | .int .u8 n :: r => (bytesOf r).map (UInt8.ofNat n.toNat :: ·)
  | _ => none
def aBytesToString (P : Program) (get : Nat → Option Blk) (src dst : TypeId) (x : Value) : Option Value :=
  match P.underlying src, P.underlying dst, x with
  | some (.slice e), some .string, .slice none 0 0 => match P.underlying e with
    | some (.int .u8) => some (.string ⟨#[]⟩)
    | _ => none
  | some (.slice e), some .string, .slice (some a) len _ => match P.underlying e, get a.block with
    | some (.int .u8), some (.cells _ cs _) => match getR cs a.off len with
      | some r => (bytesOf r).map fun bs => .string ⟨bs.toArray⟩
      | none => none
    | _, _ => none
  | _, _, _ => none
def aLenMap (P : Program) (get : Nat → Option Blk) (t : TypeId) (x : Value) : Option Value :=
  match P.underlying t, x with
  | some (.map _ _), .map (some r) => match get r with
    | some (.map es _ _) => some (goInt es.length)
    | _ => none
  | _, _ => none
def aUnsafe (P : Program) (get : Nat → Option Blk) (src dst : TypeId) (x : Value) : Option Value :=
  match P.underlying src, P.underlying dst, x with
  | some (.pointer _), some .unsafePointer, .pointer none => some x
  | some (.pointer t), some .unsafePointer, .pointer (some a) => match get a.block, tsize P t with
    | some (.cells _ cs _), some n => if n = 0 ∨ cs.length ≤ a.off then none else some x
    | _, _ => none
  | some .unsafePointer, some (.pointer _), .pointer none => some x
  | _, _, _ => none
def opR (P : Program) (ρ : Operand → Value) (get : Nat → Option Blk) (o : Oper) : Option Value :=
  match o.op with
  | .load t a => aLoad P get t (ρ a)
  | .lookup t x k ok => aLookup P get t (ρ x) (ρ k) ok
  | .convert src dst x => match aBytesToString P get src dst (ρ x) with
    | some v => some v
    | none => aUnsafe P get src dst (ρ x)
  | .call c => match c.callee, c.argTypes.toList, c.args.toList with
    | .builtin .len, t :: _, x :: _ => aLenMap P get t (ρ x)
    | _, _, _ => none
  | _ => none
inductive Eff where
  | put (b : Nat) (o : Blk) : Eff
  | push (o : Blk) : Eff
def aStore (P : Program) (get : Nat → Option Blk) (t : TypeId) (x v : Value) : Option (List Eff) :=
  match x with
  | .pointer (some a) => match get a.block with
    | some (.cells ty cs false) => match tsize P t with
      | some n => if (cellsL v).length = n && (cellsL v).all isOne && a.off + n ≤ cs.length then some [.put a.block (.cells ty (putL cs a.off (cellsL v)) false)] else none
      | none => none
    | _ => none
  | _ => none
def srcCells (get : Nat → Option Blk) (size n : Nat) : Value → Option (List Value)
  | .slice none 0 0 => if n = 0 then some [] else none
  | .slice (some a) len _ => if n = 0 then some [] else if len < n then none else match get a.block with
    | some (.cells _ cs _) => getR cs a.off (n * size)
    | _ => none
  | .string s => some ((s.data.toList.take n).map fun b => .int .u8 b.toNat)
  | .iface len (.iface _ (.agg cs)) => if n = 0 then some [] else if len < n then none else getR cs.toList 0 (n * size)
  | _ => none
def srcLen : Value → Option Nat
  | .slice _ n _ => some n
  | .string s => some s.size
  | .iface n (.iface _ (.agg _)) => some n
  | _ => none
def aSrc (P : Program) (get : Nat → Option Blk) (size : Nat) (zero : List Value) (xd : TypeDesc) (x : Value) : Option (List Value × Nat) :=
  match xd with
  | .int _ => match x with
    | .int _ n => if 0 ≤ n ∧ n ≤ 2147483647 then some (repL zero n.toNat, n.toNat) else none
    | _ => none
  | _ => match srcLen x with
    | none => none
    | some m => (srcCells get size m x).map fun ns => (ns, m)
def aAppend (P : Program) (get : Nat → Option Blk) (sz : Nat) (types : List TypeId) (args : List Value) : Option (Value × List Eff) :=
  match types, args with
  | st :: xt :: _, s :: x :: _ => match P.underlying st, P.underlying xt with
    | some (.slice elem), some xd => match P.info? elem with
      | none => none
      | some i => match tzero P elem with
        | none => none
        | some zero =>
          if i.size = 0 ∨ zero.length ≠ i.size ∨ 32768 < i.bytes then none else
          match aSrc P get i.size zero xd x with
          | none => none
          | some (ns, m) =>
            if ns.all isOne = false ∨ ns.length ≠ m * i.size then none else
            match s with
            | .slice none 0 0 => if m = 0 then some (s, []) else if 2147483647 < m then none else some (.slice (some ⟨sz, 0, none⟩) m (3 * i.size + 1), [.push (.cells elem ns false)])
            | .slice (some a) len c =>
              if m = 0 then some (s, []) else if 2147483647 < len + m then none else
              match get a.block with
              | some (.cells ty cs ro) => match getR cs a.off (len * i.size) with
                | none => none
                | some old =>
                  if c % 3 = 0 ∧ c / 3 / 1000000 < m then some (.slice (some ⟨sz, 0, none⟩) (len + m) (3 * i.size + 1), [.push (.cells elem (old ++ ns) false)])
                  else if c = 3 * i.size + 1 ∧ ro = false ∧ ty = elem then
                    if a.off + (len + m) * i.size ≤ cs.length then some (.slice (some a) (len + m) c, [.put a.block (.cells ty (putL cs (a.off + len * i.size) ns) false)])
                    else some (.slice (some ⟨sz, 0, none⟩) (len + m) (3 * i.size + 1), [.put a.block .dead, .push (.cells ty (old ++ ns) false)])
                  else if c % 3 = 0 ∧ ro = false ∧ a.off + (len + m) * i.size ≤ cs.length then
                    some (.slice (some a) (len + m) (3 * (c / 3 % 1000000 + 1000000 * (c / 3 / 1000000 - m))), [.put a.block (.cells ty (putL cs (a.off + len * i.size) ns) false)])
                  else none
              | _ => none
            | _ => none
    | _, _ => none
  | _, _ => none
def aCopy (P : Program) (get : Nat → Option Blk) (types : List TypeId) (args : List Value) : Option (Value × List Eff) :=
  match types, args with
  | dt :: _, d :: x :: _ => match P.underlying dt with
    | some (.slice elem) => match tsize P elem, d, srcLen x with
      | some size, .slice base dlen _, some m =>
        match srcCells get size (min m dlen) x with
        | none => none
        | some ns =>
          if !(ns.all isOne) || ns.length ≠ min m dlen * size then none else
          match base with
          | none => if min m dlen = 0 then some (goInt 0, []) else none
          | some a =>
            if min m dlen = 0 then some (goInt 0, []) else
            match get a.block with
            | some (.cells ty cs false) => if a.off + ns.length ≤ cs.length then some (goInt (min m dlen : Nat), [.put a.block (.cells ty (putL cs a.off ns) false)]) else none
            | _ => none
      | _, _, _ => none
    | _ => none
  | _, _ => none
def aClear (P : Program) (get : Nat → Option Blk) (types : List TypeId) (args : List Value) : Option (Value × List Eff) :=
  match types, args with
  | t :: _, x :: _ => match P.underlying t, x with
    | some (.slice _), .slice none 0 0 => some (.tuple #[], [])
    | some (.slice elem), .slice (some a) len _ =>
      if len = 0 then some (.tuple #[], []) else
      match tzero P elem, get a.block with
      | some zero, some (.cells ty cs false) => if a.off + (repL zero len).length ≤ cs.length then some (.tuple #[], [.put a.block (.cells ty (putL cs a.off (repL zero len)) false)]) else none
      | _, _ => none
    | _, _ => none
  | _, _ => none
def setE : List (Value × Value × Nat) → Nat → (Value × Value × Nat) → List (Value × Value × Nat)
  | [], _, _ => []
  | _ :: es, 0, x => x :: es
  | e :: es, n + 1, x => e :: setE es n x
def dropE : List (Value × Value × Nat) → Nat → List (Value × Value × Nat)
  | [], _ => []
  | _ :: es, 0 => es
  | e :: es, n + 1 => e :: dropE es n
def bornE : List (Value × Value × Nat) → Nat → Nat
  | [], _ => 0
  | e :: _, 0 => e.2.2
  | _ :: es, n + 1 => bornE es n
def stampE (b : Int) : List (Value × Value × Nat) → Nat → Option (Nat × Value)
  | [], _ => none
  | e :: es, i => if (e.2.2 : Int) == b then some (i, e.1) else stampE b es (i + 1)
def aUpdate (P : Program) (get : Nat → Option Blk) (t : TypeId) (m k v : Value) : Option (List Eff) :=
  match P.underlying t, m with
  | some (.map key _), .map (some r) => match keyKind P key, get r with
    | some d, some (.map es clock false) => match findE d k es 0 with
      | none => none
      | some (some (i, _)) => some [.put r (.map (setE es i (k, v, bornE es i)) clock false)]
      | some none => if flat k then some [.put r (.map (es ++ [(k, v, clock)]) (clock + 1) false)] else none
    | _, _ => none
  | _, _ => none
def aEntry (P : Program) (get : Nat → Option Blk) (t : TypeId) (m k : Value) : Option (Value × List Eff) :=
  match P.underlying t, m with
  | some (.map key elem), .map (some r) => match keyKind P key, get r with
    | some d, some (.map es clock false) => match findE d k es 0 with
      | none => none
      | some (some (i, v)) => some (.tuple #[v, goInt (bornE es i)], [.put r (.map (setE es i (k, v, bornE es i)) clock false)])
      | some none => match (P.info? elem).bind (·.zero) with
        | some z => if flat k && plain z then some (.tuple #[z, goInt clock], [.put r (.map (es ++ [(k, z, clock)]) (clock + 1) false)]) else none
        | none => none
    | _, _ => none
  | _, _ => none
def aEntryStore (get : Nat → Option Blk) (m s v : Value) : Option (List Eff) :=
  match m, s with
  | .map (some r), .int _ b => match get r with
    | some (.map es clock false) => match stampE b es 0 with
      | some (i, k) => some [.put r (.map (setE es i (k, v, bornE es i)) clock false)]
      | none => none
    | _ => none
  | _, _ => none
def aDelete (P : Program) (get : Nat → Option Blk) (types : List TypeId) (args : List Value) : Option (Value × List Eff) :=
  match types, args with
  | t :: _, m :: k :: _ => match P.underlying t with
    | some (.map key _) => match keyKind P key, m with
      | some d, .map none => if flat k then some (.tuple #[], []) else none
      | some d, .map (some r) => match get r with
        | some (.map es clock false) => match findE d k es 0 with
          | none => none
          | some (some (i, _)) => some (.tuple #[], [.put r (.map (dropE es i) clock false)])
          | some none => if flat k then some (.tuple #[], []) else none
        | _ => none
      | _, _ => none
    | _ => none
  | _, _ => none
def aStringToBytes (P : Program) (sz : Nat) (src dst : TypeId) (x : Value) : Option (Value × List Eff) := none
def opB (P : Program) (ρ : Operand → Value) (sz : Nat) (get : Nat → Option Blk) (o : Oper) : Option (Value × List Eff) :=
  match o.op with
  | .store t a v => (aStore P get t (ρ a) (ρ v)).map fun es => (undef, es)
  | .mapUpdate t m k v | .insert t m k v => (aUpdate P get t (ρ m) (ρ k) (ρ v)).map fun es => (undef, es)
  | .mapEntry t m k => aEntry P get t (ρ m) (ρ k)
  | .entryStore _ m s v => (aEntryStore get (ρ m) (ρ s) (ρ v)).map fun es => (undef, es)
  | .convert src dst x => aStringToBytes P sz src dst (ρ x)
  | .call c => match c.callee with
    | .builtin .append => aAppend P get sz c.argTypes.toList (c.args.toList.map ρ)
    | .builtin .copy => aCopy P get c.argTypes.toList (c.args.toList.map ρ)
    | .builtin .clear => aClear P get c.argTypes.toList (c.args.toList.map ρ)
    | .builtin .delete => aDelete P get c.argTypes.toList (c.args.toList.map ρ)
    | _ => none
  | _ => none
end Go.Proofs.Ytbhmodlpolgklaa.AI
namespace Go.Proofs.Ytbhmodlpolgklaa.AI
open Go
inductive Cls where
  | pure : Cls
  | read : Cls
  | big : Cls
def cls (P : Program) (o : Oper) : Cls :=
  match o.op with
  | .load .. | .lookup .. => .read
  | .convert src dst _ => match P.underlying src, P.underlying dst with
    | some (.slice _), some .string => .read
    | some .unsafePointer, _ => .read
    | _, some .unsafePointer => .read
    | _, some (.slice _) => .big
    | _, _ => .pure
  | .call c => match c.callee with
    | .builtin .len => match c.argTypes.toList with
      | t :: _ => match P.underlying t with
        | some (.map _ _) => .read
        | _ => .pure
      | [] => .pure
    | .builtin .min | .builtin .max | .builtin .cap => .pure
    | _ => .big
  | .store .. | .mapUpdate .. | .insert .. | .mapEntry .. | .entryStore .. | .defer _ | .go _ | .panic _ | .send .. | .recv .. | .select .. | .range .. | .next .. | .entry _ | .ready _ | .waits _ | .typeAssert .. | .makeInterface .. | .makeChan .. | .sliceToArrayPointer .. => .big
  | _ => .pure
def Hp.eff (h : Hp) : List Eff → Hp
  | [] => h
  | .put b o :: es => (h.put b o).eff es
  | .push o :: es => (h.push o).eff es
abbrev CallF := FuncId → List Value → Hp → Option (Value × Hp)
def target (ρ : Operand → Value) (c : Call) : Option (FuncId × List Value) :=
  match c.callee with
  | .value f => match ρ f with
    | .func (.func g) first captured => some (g, first.toList ++ c.args.toList.map ρ ++ captured.toList)
    | _ => none
  | _ => none
def aStep (P : Program) (call : CallF) (o : Oper) (st : St) : Option (Value × Hp × List (FuncId × List Value)) :=
  match cls P o with
  | .pure => match opP P st.eval st.hp.sz o with
    | some (v, none) => some (v, st.hp, st.df)
    | some (v, some b) => some (v, st.hp.push b, st.df)
    | none => none
  | .read => match opR P st.eval st.hp.get o with
    | some v => some (v, st.hp, st.df)
    | none => none
  | .big => match opB P st.eval st.hp.sz st.hp.get o with
    | some (v, es) => some (v, st.hp.eff es, st.df)
    | none => match o.op with
      | .call c => match target st.eval c with
        | some (f, args) => match call f args st.hp with
          | some (v, h) => some (v, h, st.df)
          | none => none
        | none => none
      | .defer c => match target st.eval c with
        | some (f, args) => some (undef, st.hp, (f, args) :: st.df)
        | none => none
      | _ => none
def aWanted (ops : Array Oper) (st : St) (o : Oper) : Bool :=
  match o.guard with
  | none => true
  | some (j, want) => match (ops[j]?).bind (·.dst) with
    | some t => match st.tm.get t with
      | some (.bool b) => b == want
      | _ => false
    | none => false
inductive Log where
  | read (j : Nat) (f : (Nat → Option Blk) → Option Value) (v : Value) : Log
  | big (i : Nat) (before after : Hp) : Log
def veq1 : Value → Value → Bool
  | .bool a, .bool b => a == b
  | .int k a, .int l b => decide (k = l) && a == b
  | .string a, .string b => strEq a b
  | .pointer none, .pointer none => true
  | .pointer (some a), .pointer (some b) => decide (a = b)
  | .slice none n c, .slice none m d => Nat.beq n m && Nat.beq c d
  | .slice (some a) n c, .slice (some b) m d => decide (a = b) && Nat.beq n m && Nat.beq c d
  | .map none, .map none => true
  | .map (some a), .map (some b) => Nat.beq a b
  | .nilFunc, .nilFunc => true
  | .nilIface, .nilIface => true
  | _, _ => false
def veqL : List Value → List Value → Bool
  | [], [] => true
  | a :: asv, b :: bs => veq1 a b && veqL asv bs
  | _, _ => false
def veq : Value → Value → Bool
  | .agg a, .agg b => veqL a.toList b.toList
  | .tuple a, .tuple b => veqL a.toList b.toList
  | .func (.func f) a b, .func (.func g) c d => Nat.beq f g && veqL a.toList c.toList && veqL b.toList d.toList
  | a, b => veq1 a b
def runOps (P : Program) (call : CallF) (ops : Array Oper) : List Oper → St → Option St
  | [], st => some st
  | o :: os, st => match aWanted ops st o with
    | false => runOps P call ops os (st.tput o.dst undef)
    | true => match aStep P call o st with
      | some (v, h, d) => runOps P call ops os ({ st with hp := h, df := d }.tput o.dst v)
      | none => none
def runLog (P : Program) (call : CallF) (ops : Array Oper) : List Oper → Nat → St → Option (St × List Log)
  | [], _, st => some (st, [])
  | o :: os, i, st => match aWanted ops st o with
    | false => runLog P call ops os (i + 1) (st.tput o.dst undef)
    | true => match aStep P call o st with
      | some (v, h, d) => match runLog P call ops os (i + 1) ({ st with hp := h, df := d }.tput o.dst v) with
        | some (st', l) => match cls P o with
          | .pure => some (st', l)
          | .read => some (st', .read i (fun get => opR P st.eval get o) v :: l)
          | .big => some (st', .big i st.hp h :: l)
        | none => none
      | none => none
def isRead (P : Program) (o : Oper) : Bool := match cls P o with | .read => true | _ => false
def isBig (P : Program) (o : Oper) : Bool := match cls P o with | .big => true | _ => false
def floats (P : Program) (ops : Array Oper) : List (Nat × Nat) :=
  let b := Region.before ops
  (ops.toList.zipIdx.filter fun x => isRead P x.1).flatMap fun x =>
    ((ops.toList.zipIdx.filter fun y => isBig P y.1).filter fun y =>
      if x.2 < y.2 then !(b.getD y.2 0).testBit x.2 else !(b.getD x.2 0).testBit y.2).map fun y => (x.2, y.2)
def sameRead (f : (Nat → Option Blk) → Option Value) (v : Value) (h : Hp) : Bool :=
  match f h.get with
  | some u => veq u v
  | none => false
def pairOk (l : List Log) (p : Nat × Nat) : Bool :=
  l.all fun r => match r with
    | .read j f v => match Nat.beq j p.1 with
      | false => true
      | true => l.all fun g => match g with
        | .big i hb ha => match Nat.beq i p.2 with
          | false => true
          | true => match Nat.ble i j with
            | true => sameRead f v hb
            | false => sameRead f v ha
        | _ => true
    | _ => true
def aRegion (P : Program) (call : CallF) (ops : Array Oper) (draw : Bool) (st : St) : Option St :=
  match draw with
  | false => runOps P call ops ops.toList st
  | true => match floats P ops with
    | [] => runOps P call ops ops.toList st
    | ps => match runLog P call ops ops.toList 0 st with
      | some (st', l) => match ps.all (pairOk l) with
        | true => some st'
        | false => none
      | none => none
def exec (P : Program) (call : CallF) : Nat → Code → St → Option (Exit × St)
  | 0, _, _ => none
  | n + 1, c, st => match c with
    | .skip | .label _ => some (.normal, st)
    | .region _ ops draw => match aRegion P call ops draw st with
      | some st' => some (.normal, st')
      | none => none
    | .seq a b => match exec P call n a st with
      | some (.normal, st') => exec P call n b st'
      | r => r
    | .cond x a b => match st.eval x with
      | .bool true => exec P call n a st
      | .bool false => exec P call n b st
      | _ => none
    | .block id body => match exec P call n body st with
      | some (.exit i, st') => match Nat.beq i id with
        | true => some (.normal, st')
        | false => some (.exit i, st')
      | r => r
    | .loop body => match exec P call n body st with
      | some (.normal, st') => exec P call n (.loop body) st'
      | r => r
    | .scope body => exec P call n body st
    | .exit id => some (.exit id, st)
    | .ret => some (.ret, st)
    | _ => none
def resVar (P : Program) (st : St) : ResultVar → Option Value
  | .tmp t => some (st.tget t)
  | .cell a t => aLoad P st.hp.get t (st.tget a)
def resVars (P : Program) (st : St) : List ResultVar → Option (List Value)
  | [] => some []
  | r :: rs => match resVar P st r, resVars P st rs with
    | some v, some vs => some (v :: vs)
    | _, _ => none
def retVal (P : Program) (fn : Func) (st : St) : Option Value :=
  match resVars P st fn.results.toList with
  | some [v] => some v
  | some vs => some (.tuple vs.toArray)
  | none => none
def tmsOf : List Value → Nat → Tr Value → Tr Value
  | [], _, t => t
  | v :: vs, i, t => tmsOf vs (i + 1) (Tr.set v (i + 1) i t)
def runDf (call : CallF) : List (FuncId × List Value) → Hp → Option Hp
  | [], h => some h
  | d :: ds, h => match call d.1 d.2 h with
    | some (_, h') => runDf call ds h'
    | none => none
abbrev Ext := FuncId → Option (CallF → List Value → Hp → Option (Value × Hp))
def aBody (P : Program) (call : CallF) (n : Nat) (fn : Func) (args : List Value) (h : Hp) : Option St :=
  match fn.body with
  | none => none
  | some c => match Nat.ble args.length fn.ntmps with
    | false => none
    | true => match exec P call n c ⟨tmsOf args 0 .leaf, h, []⟩ with
      | some (.normal, st) => some st
      | some (.ret, st) => some st
      | _ => none
def aPlain (P : Program) (ext : Ext) (call : CallF) (n : Nat) : CallF := fun f args h =>
  match ext f with
  | some _ => none
  | none => match P.funcs[f]? with
    | none => none
    | some fn => match aBody P call n fn args h with
      | none => none
      | some st => match st.df with
        | [] => (retVal P fn st).map fun v => (v, st.hp)
        | _ :: _ => none
def aCall (P : Program) (ext : Ext) : Nat → FuncId → List Value → Hp → Option (Value × Hp)
  | 0, _, _, _ => none
  | n + 1, f, args, h => match ext f with
    | some e => e (aCall P ext n) args h
    | none => match P.funcs[f]? with
      | none => none
      | some fn => match aBody P (aCall P ext n) n fn args h with
        | none => none
        | some st => match runDf (aPlain P ext (aCall P ext n) n) st.df st.hp with
          | some h' => (retVal P fn { st with hp := h' }).map fun v => (v, h')
          | none => none
def okConst : Operand → Bool
  | .tmp _ => true
  | .const v => plain v
  | .global _ => false
  | .func _ => true
def okOp (ntmps : Nat) (o : Oper) : Bool :=
  (match o.dst with | some d => decide (d < ntmps) | none => true) && o.op.operands.toList.all okConst
def tmpsOf (ops : Array Oper) (o : Oper) : List Tmp :=
  o.dst.toList ++ (o.op.operands.toList.filterMap fun | .tmp t => some t | _ => none) ++
    (match o.guard with | some (j, _) => ((ops[j]?).bind (·.dst)).toList | none => [])
def freeOk (P : Program) (ops : Array Oper) (x y : Oper) : Bool :=
  (match x.dst with | some d => !(tmpsOf ops y).contains d | none => true) &&
  (match y.dst with | some d => !(tmpsOf ops x).contains d | none => true) &&
  !(isBig P x && isBig P y)
def regSafe (P : Program) (ops : Array Oper) : Bool :=
  let b := Region.before ops
  ops.toList.zipIdx.all fun y =>
    (y.1.after.toList.all fun e => !Region.binds .any e || decide (e.on < y.2)) &&
    (match y.1.guard with | some (j, _) => decide (j < y.2) && (b.getD y.2 0).testBit j | none => true) &&
    (ops.toList.zipIdx.all fun x => !decide (x.2 < y.2) || (b.getD y.2 0).testBit x.2 || freeOk P ops x.1 y.1)
def codeSafe (P : Program) (n : Nat) : Code → Bool
  | .skip | .label _ | .exit _ | .ret => true
  | .region _ ops draw => ops.toList.all (okOp n) && (!draw || regSafe P ops)
  | .seq a b => codeSafe P n a && codeSafe P n b
  | .cond c a b => okConst c && codeSafe P n a && codeSafe P n b
  | .block _ b | .loop b | .scope b => codeSafe P n b
  | _ => false
def fnSafe (P : Program) (fn : Func) : Bool :=
  match fn.body with
  | none => false
  | some c => codeSafe P fn.ntmps c && !(fn.name == "runtime.NumGoroutine")
end Go.Proofs.Ytbhmodlpolgklaa.AI
namespace Go.Proofs.Ytbhmodlpolgklaa.AI
open Go
def cellAt (h : Hp) (a : Addr) : Option Value :=
  match h.get a.block with
  | some (.cells _ cs _) => cs[a.off]?
  | _ => none
def cellPut (h : Hp) (a : Addr) (v : Value) : Option Hp :=
  match h.get a.block with
  | some (.cells ty cs false) => if a.off < cs.length && isOne v then some (h.put a.block (.cells ty (putL cs a.off [v]) false)) else none
  | _ => none
def atLoad (k : IntKind) : CallF → List Value → Hp → Option (Value × Hp)
  | _, [.pointer (some a)], h => match cellAt h a with
    | some (.int k' n) => if k' = k then some (.int k' n, h) else none
    | _ => none
  | _, _, _ => none
def atStore : CallF → List Value → Hp → Option (Value × Hp)
  | _, [.pointer (some a), v], h => (cellPut h a v).map fun h' => (.tuple #[], h')
  | _, _, _ => none
def atAdd (k : IntKind) : CallF → List Value → Hp → Option (Value × Hp)
  | _, [.pointer (some a), .int k1 d], h => match cellAt h a with
    | some (.int k' n) => if k' = k ∧ k1 = k then (cellPut h a (.int k (wrapF k (n + d)))).map fun h' => (.int k (wrapF k (n + d)), h') else none
    | _ => none
  | _, _, _ => none
def atCas (k : IntKind) : CallF → List Value → Hp → Option (Value × Hp)
  | _, [.pointer (some a), .int k1 old, .int k2 new], h => match cellAt h a with
    | some (.int k' n) => if k' = k ∧ k1 = k ∧ k2 = k then (match decide (n = old), h.get a.block with
      | true, _ => (cellPut h a (.int k new)).map fun h' => (.bool true, h')
      | false, some (.cells _ _ false) => some (.bool false, h)
      | _, _ => none) else none
    | _ => none
  | _, _, _ => none
def stuckE : CallF → List Value → Hp → Option (Value × Hp) := fun _ _ _ => none
def noneE : CallF → List Value → Hp → Option (Value × Hp)
  | _, [], h => some (.tuple #[], h)
  | _, _, _ => none
def markE : CallF → List Value → Hp → Option (Value × Hp)
  | _, [.pointer (some _)], h => some (.tuple #[], h)
  | _, _, _ => none
def atoms : List (String × (CallF → List Value → Hp → Option (Value × Hp))) :=
  [("sync/atomic.LoadInt32", atLoad .i32), ("sync/atomic.LoadInt64", atLoad .i64), ("sync/atomic.LoadUint32", atLoad .u32), ("sync/atomic.LoadUint64", atLoad .u64),
   ("sync/atomic.StoreInt32", atStore), ("sync/atomic.StoreInt64", atStore), ("sync/atomic.StoreUint32", atStore), ("sync/atomic.StoreUint64", atStore),
   ("sync/atomic.AddInt32", atAdd .i32), ("sync/atomic.AddInt64", atAdd .i64), ("sync/atomic.CompareAndSwapInt32", atCas .i32), ("sync/atomic.CompareAndSwapUint32", atCas .u32),
   ("internal/race.Disable", noneE), ("internal/race.Enable", noneE), ("internal/race.Acquire", markE), ("internal/race.ReleaseMerge", markE)]
def atomIn (name : String) : List (String × (CallF → List Value → Hp → Option (Value × Hp))) → Option (CallF → List Value → Hp → Option (Value × Hp))
  | [] => none
  | (n, e) :: r => match decide (name = n) with
    | true => some e
    | false => atomIn name r
def extOf (P : Program) : Ext := fun f =>
  match P.funcs[f]? with
  | none => some stuckE
  | some fn => match fn.body with
    | none => match decide (fn.origin = "") with
      | true => match atomIn fn.name atoms with
        | some e => some e
        | none => some stuckE
      | false => some stuckE
    | some _ => match fnSafe P fn with
      | true => none
      | false => some stuckE
end Go.Proofs.Ytbhmodlpolgklaa.AI
namespace Go.Proofs.Ytbhmodlpolgklaa.AI
open Go
variable [Inhabited Prop]
/- and what is known of rows that nobody writes any more: row r holds from cell off on the cells cs, elements of type ty. -/
structure BM where
  loc : Nat → Option (Nat × Nat × Nat)
  lit : Nat → Nat → TypeId → List Value → Prop
instance : CoeFun BM (fun _ => Nat → Option (Nat × Nat × Nat)) := ⟨BM.loc⟩
abbrev HG := Nat → Option Blk
def Cap0 (c len cap : Nat) : Prop := len ≤ cap ∧ (c % 3 = 0 → cap = len + c / 3 / 1000000)
omit [Inhabited Prop] in
theorem Cap0.of {c len cap : Nat} (h : len ≤ cap) (hc : c % 3 ≠ 0) : Cap0 c len cap := ⟨h, fun h => absurd h hc⟩
def CapOk (c len cap base E : Nat) : Prop := (c % 3 = 0 → cap = len + c / 3 / 1000000) ∧ (c % 3 = 1 → base + cap * (c / 3) = E)
inductive VRel (m : BM) (h : HG) : Value → Value → Prop where
  | flat {v : Value} : flat v = true → VRel m h v v
  | ptr {b off r off' : Nat} : (h b = some .dead ∨ ∃ δ E, m b = some (r, δ, E) ∧ off' = δ + off) →
      VRel m h (.pointer (some ⟨b, off, none⟩)) (.pointer (some ⟨r, off', none⟩))
  | slice {b off len c r off' cap : Nat} : Cap0 c len cap →
      (h b = some .dead ∨ ∃ δ E, m b = some (r, δ, E) ∧ (off' = δ + off ∨ cap = 0) ∧ CapOk c len cap (δ + off) E) →
      VRel m h (.slice (some ⟨b, off, none⟩) len c) (.slice (some ⟨r, off', none⟩) len cap)
  | blind {n cap : Nat} {a : Addr} : n ≤ cap → VRel m h (.chan (some n)) (.slice (some a) n cap)
  | blind0 : VRel m h (.chan (some 0)) (.slice none 0 0)
  | lit {n : Nat} {ty : TypeId} {cs : List Value} {r off cap : Nat} : m.lit r off ty cs → n ≤ cap → VRel m h (LIT n ty cs) (.slice (some ⟨r, off, none⟩) n cap)
  | bag {n : Nat} {ty : TypeId} {cs ds : List Value} {r off cap : Nat} : m.lit r off ty ds → cs.Perm ds → n ≤ cap → VRel m h (BAG n ty cs) (.slice (some ⟨r, off, none⟩) n cap)
  | lit0 {ty : TypeId} : VRel m h (LIT 0 ty []) (.slice none 0 0)
  | litE {ty : TypeId} {a : Addr} {cap : Nat} : VRel m h (LIT 0 ty []) (.slice (some a) 0 cap)
  | bag0 {ty : TypeId} : VRel m h (BAG 0 ty []) (.slice none 0 0)
  | junk {v : Value} : (∀ b, v ≠ .bool b) → VRel m h (.chan none) v
  | map {b r : Nat} : (h b = some .dead ∨ ∃ x, m b = some (r, x)) → VRel m h (.map (some b)) (.map (some r))
  | func {f : FuncId} {a a' c c' : Array Value} : a.size = a'.size → (∀ (i : Nat) (v v' : Value), a[i]? = some v → a'[i]? = some v' → VRel m h v v') →
      c.size = c'.size → (∀ (i : Nat) (v v' : Value), c[i]? = some v → c'[i]? = some v' → VRel m h v v') → VRel m h (.func (.func f) a c) (.func (.func f) a' c')
  | agg {a a' : Array Value} : a.size = a'.size → (∀ (i : Nat) (v v' : Value), a[i]? = some v → a'[i]? = some v' → VRel m h v v') → VRel m h (.agg a) (.agg a')
  | tuple {a a' : Array Value} : a.size = a'.size → (∀ (i : Nat) (v v' : Value), a[i]? = some v → a'[i]? = some v' → VRel m h v v') → VRel m h (.tuple a) (.tuple a')
def VRelL (m : BM) (h : HG) (asv bs : List Value) : Prop := asv.length = bs.length ∧ ∀ (i : Nat) (v v' : Value), asv[i]? = some v → bs[i]? = some v' → VRel m h v v'
def VRelA (m : BM) (h : HG) (asv bs : Array Value) : Prop := asv.size = bs.size ∧ ∀ (i : Nat) (v v' : Value), asv[i]? = some v → bs[i]? = some v' → VRel m h v v'
omit [Inhabited Prop] in
theorem VRelA.toList {m : BM} {h : HG} {asv bs : Array Value} (r : VRelA m h asv bs) : VRelL m h asv.toList bs.toList :=
  ⟨by simpa using r.1, fun i v v' h1 h2 => r.2 i v v' (by simpa using h1) (by simpa using h2)⟩
omit [Inhabited Prop] in
theorem VRelL.toArray {m : BM} {h : HG} {asv bs : List Value} (r : VRelL m h asv bs) : VRelA m h asv.toArray bs.toArray :=
  ⟨by simpa using r.1, fun i v v' h1 h2 => r.2 i v v' (by simpa using h1) (by simpa using h2)⟩
omit [Inhabited Prop] in
theorem VRelL.nil {m : BM} {h : HG} : VRelL m h [] [] := ⟨rfl, fun i v v' h1 _ => by simp at h1⟩
omit [Inhabited Prop] in
theorem VRelL.cons {m : BM} {h : HG} {a b : Value} {asv bs : List Value} (r : VRel m h a b) (rs : VRelL m h asv bs) : VRelL m h (a :: asv) (b :: bs) :=
  ⟨by simp [rs.1], fun i v v' h1 h2 => by
    cases i with
    | zero => simp at h1 h2; subst h1; subst h2; exact r
    | succ i => exact rs.2 i v v' (by simpa using h1) (by simpa using h2)⟩
omit [Inhabited Prop] in
theorem VRelL.of_cons {m : BM} {h : HG} {a : Value} {asv bs : List Value} (r : VRelL m h (a :: asv) bs) : ∃ b bs', bs = b :: bs' ∧ VRel m h a b ∧ VRelL m h asv bs' := by
  cases bs with
  | nil => simp [VRelL] at r
  | cons b bs =>
    refine ⟨b, bs, rfl, r.2 0 a b rfl rfl, by simpa using r.1, fun i v v' h1 h2 => r.2 (i + 1) v v' (by simpa using h1) (by simpa using h2)⟩
omit [Inhabited Prop] in
theorem VRelL.of_nil {m : BM} {h : HG} {bs : List Value} (r : VRelL m h [] bs) : bs = [] := by
  have := r.1; simp at this; exact List.eq_nil_of_length_eq_zero this.symm
omit [Inhabited Prop] in
theorem VRelL.append {m : BM} {h : HG} {asv bs cs ds : List Value} (r : VRelL m h asv bs) (s : VRelL m h cs ds) : VRelL m h (asv ++ cs) (bs ++ ds) := by
  induction asv generalizing bs with
  | nil => rw [r.of_nil]; exact s
  | cons a asv ih =>
    obtain ⟨b, bs', rfl, h1, h2⟩ := r.of_cons
    exact VRelL.cons h1 (ih h2)
omit [Inhabited Prop] in
theorem VRelL.drop {m : BM} {h : HG} {asv bs : List Value} (r : VRelL m h asv bs) (n : Nat) : VRelL m h (asv.drop n) (bs.drop n) :=
  ⟨by simp [r.1], fun i v v' h1 h2 => r.2 (n + i) v v' (by simpa using h1) (by simpa using h2)⟩
omit [Inhabited Prop] in
theorem VRelL.take {m : BM} {h : HG} {asv bs : List Value} (r : VRelL m h asv bs) (n : Nat) : VRelL m h (asv.take n) (bs.take n) :=
  ⟨by simp [r.1], fun i v v' h1 h2 => by
    rw [List.getElem?_take] at h1 h2
    split at h1
    · rename_i hi; rw [if_pos hi] at h2; exact r.2 i v v' h1 h2
    · cases h1⟩
omit [Inhabited Prop] in
theorem VRel.of_flat {m : BM} {h : HG} {v v' : Value} (hf : AI.flat v = true) (r : VRel m h v v') : v' = v := by
  cases r <;> first | rfl | (simp [AI.flat] at hf)
omit [Inhabited Prop] in
theorem VRelL.of_flats {m : BM} {h : HG} : ∀ {asv bs : List Value}, asv.all AI.flat = true → VRelL m h asv bs → bs = asv
  | [], bs, _, r => r.of_nil
  | a :: asv, bs, hf, r => by
    obtain ⟨b, bs', rfl, h1, h2⟩ := r.of_cons
    simp only [List.all_cons, Bool.and_eq_true] at hf
    rw [h1.of_flat hf.1, VRelL.of_flats hf.2 h2]
omit [Inhabited Prop] in
theorem VRelL.flats {m : BM} {h : HG} : ∀ {asv : List Value}, asv.all AI.flat = true → VRelL m h asv asv
  | [], _ => VRelL.nil
  | a :: asv, hf => by
    simp only [List.all_cons, Bool.and_eq_true] at hf
    exact VRelL.cons (.flat hf.1) (VRelL.flats hf.2)
omit [Inhabited Prop] in
theorem VRel.agg' {m : BM} {h : HG} {asv bs : List Value} (r : VRelL m h asv bs) : VRel m h (.agg asv.toArray) (.agg bs.toArray) := .agg r.toArray.1 r.toArray.2
omit [Inhabited Prop] in
theorem VRel.plain {m : BM} {h : HG} {v : Value} (hp : AI.plain v = true) : VRel m h v v := by
  cases v with
  | agg cs =>
    have := VRelL.flats (m := m) (h := h) (asv := cs.toList) (by simpa [AI.plain] using hp)
    simpa using VRel.agg' this
  | func fn a b =>
    cases fn <;> simp [AI.plain, AI.flat] at hp
    obtain ⟨rfl, rfl⟩ := hp
    exact .func rfl (fun i v v' h1 _ => by simp at h1) rfl (fun i v v' h1 _ => by simp at h1)
  | _ => exact .flat (by simpa [AI.plain] using hp)
omit [Inhabited Prop] in
theorem VRel.undef {m : BM} {h : HG} : VRel m h Go.undef Go.undef := .tuple rfl fun i v v' h1 _ => by simp at h1
omit [Inhabited Prop] in
theorem VRel.fn {m : BM} {h : HG} (f : FuncId) : VRel m h (.func (.func f) #[] #[]) (.func (.func f) #[] #[]) :=
  .func rfl (fun i v v' h1 _ => by simp at h1) rfl (fun i v v' h1 _ => by simp at h1)
omit [Inhabited Prop] in
theorem VRel.of_bool {m : BM} {h : HG} {b : Bool} {v : Value} (r : VRel m h (.bool b) v) : v = .bool b := r.of_flat rfl
omit [Inhabited Prop] in
theorem VRel.of_int {m : BM} {h : HG} {k : IntKind} {n : Int} {v : Value} (r : VRel m h (.int k n) v) : v = .int k n := r.of_flat rfl
omit [Inhabited Prop] in
theorem VRel.of_string {m : BM} {h : HG} {s : ByteArray} {v : Value} (r : VRel m h (.string s) v) : v = .string s := r.of_flat rfl
omit [Inhabited Prop] in
theorem VRel.of_agg {m : BM} {h : HG} {a : Array Value} {v : Value} (r : VRel m h (.agg a) v) : ∃ a', v = .agg a' ∧ VRelA m h a a' := by
  cases r with
  | flat hf => simp [AI.flat] at hf
  | agg h1 h2 => exact ⟨_, rfl, h1, h2⟩
omit [Inhabited Prop] in
theorem VRel.of_tuple {m : BM} {h : HG} {a : Array Value} {v : Value} (r : VRel m h (.tuple a) v) : ∃ a', v = .tuple a' ∧ VRelA m h a a' := by
  cases r with
  | flat hf => simp [AI.flat] at hf
  | tuple h1 h2 => exact ⟨_, rfl, h1, h2⟩
omit [Inhabited Prop] in
theorem VRel.of_ptr {m : BM} {h : HG} {a : Addr} {v : Value} (r : VRel m h (.pointer (some a)) v) : ∃ b off r off', a = ⟨b, off, none⟩ ∧ v = .pointer (some ⟨r, off', none⟩) ∧
    (h b = some .dead ∨ ∃ δ E, m b = some (r, δ, E) ∧ off' = δ + off) := by
  cases r with
  | flat hf => simp [AI.flat] at hf
  | ptr h1 => exact ⟨_, _, _, _, rfl, rfl, h1⟩
omit [Inhabited Prop] in
theorem VRel.of_slice {m : BM} {h : HG} {a : Addr} {len c : Nat} {v : Value} (r : VRel m h (.slice (some a) len c) v) : ∃ b off r off' cap, a = ⟨b, off, none⟩ ∧
    v = .slice (some ⟨r, off', none⟩) len cap ∧ len ≤ cap ∧ (h b = some .dead ∨ ∃ δ E, m b = some (r, δ, E) ∧ (off' = δ + off ∨ cap = 0) ∧ CapOk c len cap (δ + off) E) := by
  cases r with
  | flat hf => simp [AI.flat] at hf
  | slice h0 h1 => exact ⟨_, _, _, _, _, rfl, rfl, h0.1, h1⟩
omit [Inhabited Prop] in
theorem VRel.of_slice0 {m : BM} {h : HG} {a : Addr} {len c : Nat} {v : Value} (r : VRel m h (.slice (some a) len c) v) : ∃ b off r off' cap, a = ⟨b, off, none⟩ ∧
    v = .slice (some ⟨r, off', none⟩) len cap ∧ Cap0 c len cap ∧ (h b = some .dead ∨ ∃ δ E, m b = some (r, δ, E) ∧ (off' = δ + off ∨ cap = 0) ∧ CapOk c len cap (δ + off) E) := by
  cases r with
  | flat hf => simp [AI.flat] at hf
  | slice h0 h1 => exact ⟨_, _, _, _, _, rfl, rfl, h0, h1⟩
omit [Inhabited Prop] in
theorem VRel.of_nilslice {m : BM} {h : HG} {len c : Nat} {v : Value} (r : VRel m h (.slice none len c) v) : len = 0 ∧ c = 0 ∧ v = .slice none 0 0 := by
  cases r with
  | flat hf =>
    cases len with
    | succ n => simp [AI.flat] at hf
    | zero => cases c with
      | succ n => simp [AI.flat] at hf
      | zero => exact ⟨rfl, rfl, rfl⟩
omit [Inhabited Prop] in
theorem VRel.of_map {m : BM} {h : HG} {b : Nat} {v : Value} (r : VRel m h (.map (some b)) v) : ∃ r, v = .map (some r) ∧ (h b = some .dead ∨ ∃ x, m b = some (r, x)) := by
  cases r with
  | flat hf => simp [AI.flat] at hf
  | map h1 => exact ⟨_, rfl, h1⟩
omit [Inhabited Prop] in
theorem VRel.of_func {m : BM} {h : HG} {f : FuncId} {a c : Array Value} {v : Value} (r : VRel m h (.func (.func f) a c) v) :
    ∃ a' c', v = .func (.func f) a' c' ∧ VRelA m h a a' ∧ VRelA m h c c' := by
  cases r with
  | flat hf => simp [AI.flat] at hf
  | func h1 h2 h3 h4 => exact ⟨_, _, rfl, ⟨h1, h2⟩, ⟨h3, h4⟩⟩
omit [Inhabited Prop] in
theorem VRel.of_lit {m : BM} {h : HG} {n : Nat} {ty : TypeId} {cs : List Value} {v : Value} (r : VRel m h (LIT n ty cs) v) :
    (∃ r off cap, v = .slice (some ⟨r, off, none⟩) n cap ∧ m.lit r off ty cs ∧ n ≤ cap) ∨ (n = 0 ∧ cs = [] ∧ (v = .slice none 0 0 ∨ ∃ a cap, v = .slice (some a) 0 cap)) := by
  cases r with
  | flat hf => simp [AI.flat] at hf
  | lit h1 h2 => exact .inl ⟨_, _, _, rfl, h1, h2⟩
  | lit0 => exact .inr ⟨rfl, rfl, .inl rfl⟩
  | litE => exact .inr ⟨rfl, rfl, .inr ⟨_, _, rfl⟩⟩
omit [Inhabited Prop] in
theorem VRel.of_bag {m : BM} {h : HG} {n : Nat} {ty : TypeId} {cs : List Value} {v : Value} (r : VRel m h (BAG n ty cs) v) :
    (∃ r off cap ds, v = .slice (some ⟨r, off, none⟩) n cap ∧ m.lit r off ty ds ∧ cs.Perm ds ∧ n ≤ cap) ∨ (n = 0 ∧ cs = [] ∧ v = .slice none 0 0) := by
  cases r with
  | flat hf => simp [AI.flat] at hf
  | bag h1 h2 h3 => exact .inl ⟨_, _, _, _, rfl, h1, h2, h3⟩
  | bag0 => exact .inr ⟨rfl, rfl, rfl⟩
omit [Inhabited Prop] in
theorem cells_toList (v : Value) : v.cells.toList = cellsL v := by cases v <;> rfl
omit [Inhabited Prop] in
theorem VRel.cells {m : BM} {h : HG} {v v' : Value} (r : VRel m h v v') (hj : isJunk v = false) : VRelL m h (cellsL v) (cellsL v') := by
  cases r with
  | agg h1 h2 => exact VRelA.toList ⟨h1, h2⟩
  | flat hf =>
    have : cellsL v = [v] := by cases v <;> first | rfl | (simp [AI.flat] at hf)
    rw [this]; exact .cons (.flat hf) .nil
  | ptr h1 => exact .cons (.ptr h1) .nil
  | slice h0 h1 => exact .cons (.slice h0 h1) .nil
  | blind h1 => exact .cons (.blind h1) .nil
  | blind0 => exact .cons .blind0 .nil
  | lit h1 h2 => exact .cons (.lit h1 h2) .nil
  | bag h1 h2 h3 => exact .cons (.bag h1 h2 h3) .nil
  | lit0 => exact .cons .lit0 .nil
  | litE => exact .cons .litE .nil
  | bag0 => exact .cons .bag0 .nil
  | junk => cases hj
  | map h1 => exact .cons (.map h1) .nil
  | func h1 h2 h3 h4 => exact .cons (.func h1 h2 h3 h4) .nil
  | tuple h1 h2 => exact .cons (.tuple h1 h2) .nil
omit [Inhabited Prop] in
theorem VRel.isOne {m : BM} {h : HG} {v v' : Value} (r : VRel m h v v') (ho : AI.isOne v = true) : v'.oneCell' = true := by
  cases r with
  | agg h1 h2 => simp [AI.isOne] at ho
  | tuple h1 h2 => simp [AI.isOne] at ho
  | junk => simp [AI.isOne] at ho
  | flat hf => cases v <;> first | rfl | (simp [AI.flat] at hf)
  | _ => rfl
structure Le (m : BM) (h : HG) (m' : BM) (h' : HG) : Prop where
  dead : ∀ b, h b = some .dead → h' b = some .dead
  keep : ∀ b x, m b = some x → h' b = some .dead ∨ m' b = some x
  lit : ∀ r off ty cs, m.lit r off ty cs → m'.lit r off ty cs
omit [Inhabited Prop] in
theorem Le.refl (m : BM) (h : HG) : Le m h m h := ⟨fun _ h => h, fun _ _ h => .inr h, fun _ _ _ _ h => h⟩
omit [Inhabited Prop] in
theorem Le.trans {m1 m2 m3 : BM} {h1 h2 h3 : HG} (a : Le m1 h1 m2 h2) (b : Le m2 h2 m3 h3) : Le m1 h1 m3 h3 :=
  ⟨fun x hx => b.dead x (a.dead x hx), fun x y hx => by
    rcases a.keep x y hx with h | h
    · exact .inl (b.dead x h)
    · exact b.keep x y h, fun r o t c hl => b.lit r o t c (a.lit r o t c hl)⟩
omit [Inhabited Prop] in
theorem VRel.mono {m m' : BM} {h h' : HG} (l : Le m h m' h') {v v' : Value} (r : VRel m h v v') : VRel m' h' v v' := by
  induction r with
  | flat hf => exact .flat hf
  | ptr h1 =>
    refine .ptr ?_
    rcases h1 with h1 | ⟨δ, E, h1, h2⟩
    · exact .inl (l.dead _ h1)
    · rcases l.keep _ _ h1 with h3 | h3
      · exact .inl h3
      · exact .inr ⟨δ, E, h3, h2⟩
  | slice h0 h1 =>
    refine .slice h0 ?_
    rcases h1 with h1 | ⟨δ, E, h1, h2⟩
    · exact .inl (l.dead _ h1)
    · rcases l.keep _ _ h1 with h3 | h3
      · exact .inl h3
      · exact .inr ⟨δ, E, h3, h2⟩
  | map h1 =>
    refine .map ?_
    rcases h1 with h1 | ⟨x, h1⟩
    · exact .inl (l.dead _ h1)
    · rcases l.keep _ _ h1 with h3 | h3
      · exact .inl h3
      · exact .inr ⟨x, h3⟩
  | blind h1 => exact .blind h1
  | blind0 => exact .blind0
  | lit h1 h2 => exact .lit (l.lit _ _ _ _ h1) h2
  | bag h1 h2 h3 => exact .bag (l.lit _ _ _ _ h1) h2 h3
  | lit0 => exact .lit0
  | litE => exact .litE
  | bag0 => exact .bag0
  | junk h1 => exact .junk h1
  | func h1 _ h3 _ ih1 ih2 => exact .func h1 ih1 h3 ih2
  | agg h1 _ ih => exact .agg h1 ih
  | tuple h1 _ ih => exact .tuple h1 ih
omit [Inhabited Prop] in
theorem VRelL.mono {m m' : BM} {h h' : HG} (l : Le m h m' h') {asv bs : List Value} (r : VRelL m h asv bs) : VRelL m' h' asv bs :=
  ⟨r.1, fun i v v' h1 h2 => (r.2 i v v' h1 h2).mono l⟩
def rw? (h : HG) (b : Nat) : Bool :=
  match h b with
  | some (.cells _ _ ro) => !ro
  | some (.map _ _ ro) => !ro
  | _ => false
def live? (h : HG) (b : Nat) : Bool :=
  match h b with
  | some .dead | none => false
  | _ => true
def ERel (m : BM) (h : HG) (es : List (Value × Value × Nat)) (fs : Array MapEntry) : Prop :=
  es.length = fs.size ∧ ∀ (i : Nat) (e : Value × Value × Nat) (f : MapEntry), es[i]? = some e → fs[i]? = some f → AI.flat e.1 = true ∧ f.key = e.1 ∧ VRel m h e.2.1 f.val ∧ f.born = e.2.2
def keysBox : List Value → Bool
  | [.map (some _)] => true
  | _ => false
def BRel (m : BM) (h : HG) (w : World) (x : Nat × Nat × Nat) : Blk → Prop
  | .cells ty cs ro => ∃ c fr, w.heap[x.1]? = some (.cells c ty fr) ∧ x.2.1 + cs.length ≤ x.2.2 ∧ x.2.2 ≤ c.size ∧
      (∀ (i : Nat) (v v' : Value), cs[i]? = some v → c[x.2.1 + i]? = some v' → VRel m h v v') ∧ ((ro = false → ∀ j, j ≤ c.size → ¬ (fr.1 ≤ j ∧ j < fr.2)) ∧ (ro = true → keysBox cs = true → x.2.1 = 0))
  | .map es clock ro => ∃ fs, w.heap[x.1]? = some (.map fs clock) ∧ ERel m h es fs
  | .dead => True
inductive LRel (m : BM) : Value → Value → Prop where
  | flat {v : Value} : AI.flat v = true → LRel m v v
  | lit {n : Nat} {ty : TypeId} {cs : List Value} {r off cap : Nat} : m.lit r off ty cs → n ≤ cap → LRel m (LIT n ty cs) (.slice (some ⟨r, off, none⟩) n cap)
  | lit0 {ty : TypeId} : LRel m (LIT 0 ty []) (.slice none 0 0)
  | litE {ty : TypeId} {a : Addr} {cap : Nat} : LRel m (LIT 0 ty []) (.slice (some a) 0 cap)
omit [Inhabited Prop] in
theorem LRel.mono {m m' : BM} (l : ∀ r off ty cs, m.lit r off ty cs → m'.lit r off ty cs) {v v' : Value} (r : LRel m v v') : LRel m' v v' := by
  cases r with
  | flat hf => exact .flat hf
  | lit h1 h2 => exact .lit (l _ _ _ _ h1) h2
  | lit0 => exact .lit0
  | litE => exact .litE
omit [Inhabited Prop] in
theorem LRel.vrel {m : BM} {h : HG} {v v' : Value} (r : LRel m v v') : VRel m h v v' := by
  cases r with
  | flat hf => exact .flat hf
  | lit h1 h2 => exact .lit h1 h2
  | lit0 => exact .lit0
  | litE => exact .litE
structure LitRow (m : BM) (w : World) (r off : Nat) (ty : TypeId) (cs : List Value) : Prop where
  row : ∃ c fr, w.heap[r]? = some (.cells c ty fr) ∧ off + cs.length ≤ c.size ∧ ∀ (i : Nat) (v v' : Value), cs[i]? = some v → c[off + i]? = some v' → LRel m v v'
omit [Inhabited Prop] in
theorem LitRow.lt {m : BM} {w : World} {r off : Nat} {ty : TypeId} {cs : List Value} (l : LitRow m w r off ty cs) : r < w.heap.size := by
  obtain ⟨c, fr, hc, _⟩ := l.row
  exact (Array.getElem?_eq_some_iff.1 hc).1
omit [Inhabited Prop] in
theorem LitRow.mono {m m' : BM} {w w' : World} {r off : Nat} {ty : TypeId} {cs : List Value} (l : LitRow m w r off ty cs) (hl : ∀ r off ty cs, m.lit r off ty cs → m'.lit r off ty cs) (e : w'.heap[r]? = w.heap[r]?) : LitRow m' w' r off ty cs := by
  obtain ⟨c, fr, h1, h2, h3⟩ := l.row
  exact ⟨c, fr, e.trans h1, h2, fun i v v' q1 q2 => (h3 i v v' q1 q2).mono hl⟩
def BM.lrow (m : BM) (r : Nat) : Prop := ∃ off ty cs, m.lit r off ty cs
structure Sim2 (m : BM) (h : HG) (w : World) : Prop where
  dom : ∀ b x, m b = some x → ∃ o, h b = some o ∧ BRel m h w x o
  inj : ∀ b b' x x', m b = some x → m b' = some x' → rw? h b = true → live? h b' = true → x.1 = x'.1 → b = b'
structure Sim (m : BM) (h : HG) (w : World) : Prop extends Sim2 m h w where
  lit : ∀ r off ty cs, m.lit r off ty cs → LitRow m w r off ty cs
  ice : ∀ r, m.lrow r → ∀ b x, m b = some x → rw? h b = true → x.1 ≠ r
omit [Inhabited Prop] in
theorem Sim.lt {m : BM} {h : HG} {w : World} (s : Sim m h w) {b : Nat} {x : Nat × Nat × Nat} (hb : m b = some x) (hl : live? h b = true) : x.1 < w.heap.size := by
  obtain ⟨o, ho, hr⟩ := s.dom b x hb
  cases o with
  | cells ty cs ro => obtain ⟨c, fr, hc, _⟩ := hr; exact (Array.getElem?_eq_some_iff.1 hc).1
  | map es cl ro => obtain ⟨fs, hc, _⟩ := hr; exact (Array.getElem?_eq_some_iff.1 hc).1
  | dead => simp [live?, ho] at hl
def Dr [I : Inhabited Prop] : Prop := I.default
structure Tp (w' w : World) : Prop where
  eq : w'.tape = w.tape
  dr : Dr → w.drawn ≤ w'.drawn
theorem Tp.refl (w : World) : Tp w w := ⟨rfl, fun _ => Nat.le_refl _⟩
theorem Tp.trans {a b c : World} (h : Tp a b) (k : Tp b c) : Tp a c := ⟨h.eq.trans k.eq, fun d => Nat.le_trans (k.dr d) (h.dr d)⟩
structure Bel (B : Nat) (w w' : World) : Prop where
  os : w'.os = w.os
  tape : Tp w' w
  output : w'.output = w.output
  size : w.heap.size ≤ w'.heap.size
  block : ∀ k, k < B → w'.heap[k]? = w.heap[k]?
theorem Bel.below {B : Nat} {w w' : World} (b : Bel B w w') : Go.RowKit.Below B w w' := ⟨b.os, b.tape.eq, b.output, b.size, b.block⟩
theorem Bel.refl (B : Nat) (w : World) : Bel B w w := ⟨rfl, .refl _, rfl, Nat.le_refl _, fun _ _ => rfl⟩
theorem Bel.of {B : Nat} {w w' : World} (b : Go.RowKit.Below B w w') (h : Dr → w.drawn ≤ w'.drawn) : Bel B w w' := ⟨b.os, ⟨b.tape, h⟩, b.output, b.size, b.block⟩
structure Go0 (m : BM) (h : HG) (w : World) (m' : BM) (h' : HG) (w' : World) : Prop where
  le : Le m h m' h'
  sim : Sim2 m' h' w'
  size : w.heap.size ≤ w'.heap.size
  new : ∀ b x, m' b = some x → m b = some x ∨ w.heap.size ≤ x.1 ∨ ∃ b0 x0, m b0 = some x0 ∧ rw? h b0 = true ∧ x0.1 = x.1
  frame : ∀ r, r < w.heap.size → (∀ b x, m b = some x → rw? h b = true → x.1 ≠ r) → w'.heap[r]? = w.heap[r]?
  un : ∀ b o, h b = some o → m b = none → m' b = none
  idle : ∀ b o, h b = some o → m b = none → h' b = some o
  ex : ∀ b o, h b = some o → ∃ o', h' b = some o'
  rwb : ∀ b x, m b = some x → rw? h' b = true → rw? h b = true
  os : w'.os = w.os
  tape : Tp w' w
  output : w'.output = w.output
structure Go1 (m : BM) (h : HG) (w : World) (m' : BM) (h' : HG) (w' : World) : Prop where
  le : Le m h m' h'
  sim : Sim m' h' w'
  size : w.heap.size ≤ w'.heap.size
  new : ∀ b x, m' b = some x → m b = some x ∨ w.heap.size ≤ x.1 ∨ ∃ b0 x0, m b0 = some x0 ∧ rw? h b0 = true ∧ x0.1 = x.1
  frame : ∀ r, r < w.heap.size → (∀ b x, m b = some x → rw? h b = true → x.1 ≠ r) → w'.heap[r]? = w.heap[r]?
  un : ∀ b o, h b = some o → m b = none → m' b = none
  idle : ∀ b o, h b = some o → m b = none → h' b = some o
  ex : ∀ b o, h b = some o → ∃ o', h' b = some o'
  rwb : ∀ b x, m b = some x → rw? h' b = true → rw? h b = true
  os : w'.os = w.os
  tape : Tp w' w
  output : w'.output = w.output
  newl : ∀ r, m'.lrow r → m.lrow r ∨ w.heap.size ≤ r ∨ ∃ b0 x0, m b0 = some x0 ∧ rw? h b0 = true ∧ x0.1 = r
theorem Go0.go {m m' : BM} {h h' : HG} {w w' : World} (g : Go0 m h w m' h' w') (s : Sim m h w) (hl : m'.lit = m.lit) : Go1 m h w m' h' w' := by
  have hr : ∀ r, m'.lrow r → m.lrow r := fun r ⟨o, t, c, q⟩ => ⟨o, t, c, hl ▸ q⟩
  have hlt : ∀ r, m.lrow r → r < w.heap.size := fun r ⟨o, t, c, q⟩ => (s.lit r o t c q).lt
  refine ⟨g.le, ⟨g.sim, fun r o t c q => ?_, fun r q b x hx hrw => ?_⟩, g.size, g.new, g.frame, g.un, g.idle, g.ex, g.rwb, g.os, g.tape, g.output, fun r q => .inl (hr r q)⟩
  · rw [hl] at q
    exact (s.lit r o t c q).mono g.le.lit (g.frame r (hlt r ⟨o, t, c, q⟩) (s.ice r ⟨o, t, c, q⟩))
  · have q' := hr r q
    rcases g.new b x hx with h1 | h1 | ⟨b0, x0, h1, h2, h3⟩
    · exact s.ice r q' b x h1 (g.rwb b x h1 hrw)
    · have := hlt r q'; omega
    · rw [← h3]; exact s.ice r q' b0 x0 h1 h2
theorem Go0.join {m m' mJ : BM} {h h' h2 : HG} {w w' : World} (g : Go0 m h w mJ h' w') (s : Sim m h w) (s' : Sim m' h2 w') (hJ : ∀ r o t c, mJ.lit r o t c ↔ m.lit r o t c ∨ m'.lit r o t c)
    (own : ∀ r, m'.lrow r → m.lrow r ∨ w.heap.size ≤ r ∨ ∃ b0 x0, m b0 = some x0 ∧ rw? h b0 = true ∧ x0.1 = r)
    (ice : ∀ r, m'.lrow r → ¬ m.lrow r → ∀ b x, mJ b = some x → rw? h' b = true → x.1 ≠ r) : Go1 m h w mJ h' w' := by
  have hr : ∀ r, mJ.lrow r → m.lrow r ∨ m'.lrow r := fun r ⟨o, t, c, q⟩ => ((hJ r o t c).1 q).imp (fun q => ⟨o, t, c, q⟩) (fun q => ⟨o, t, c, q⟩)
  have hlt : ∀ r, m.lrow r → r < w.heap.size := fun r ⟨o, t, c, q⟩ => (s.lit r o t c q).lt
  refine ⟨g.le, ⟨g.sim, fun r o t c q => ?_, fun r q b x hx hrw => ?_⟩, g.size, g.new, g.frame, g.un, g.idle, g.ex, g.rwb, g.os, g.tape, g.output, fun r q => (hr r q).elim .inl (own r)⟩
  · rcases (hJ r o t c).1 q with q | q
    · exact (s.lit r o t c q).mono g.le.lit (g.frame r (hlt r ⟨o, t, c, q⟩) (s.ice r ⟨o, t, c, q⟩))
    · exact (s'.lit r o t c q).mono (fun _ _ _ _ q => (hJ _ _ _ _).2 (.inr q)) rfl
  · by_cases q' : m.lrow r
    · rcases g.new b x hx with h1 | h1 | ⟨b0, x0, h1, h2, h3⟩
      · exact s.ice r q' b x h1 (g.rwb b x h1 hrw)
      · have := hlt r q'; omega
      · rw [← h3]; exact s.ice r q' b0 x0 h1 h2
    · exact ice r ((hr r q).resolve_left q') q' b x hx hrw
theorem Go1.ice {m m' : BM} {h h' : HG} {w w' : World} (g : Go1 m h w m' h' w') : Go0 m h w m' h' w' := ⟨g.le, g.sim.toSim2, g.size, g.new, g.frame, g.un, g.idle, g.ex, g.rwb, g.os, g.tape, g.output⟩
omit [Inhabited Prop] in
theorem Sim.heap {m : BM} {h : HG} {w w' : World} (s : Sim m h w) (e : w'.heap = w.heap) : Sim m h w' := by
  refine ⟨⟨fun b x hx => ?_, s.inj⟩, fun r o t c q => (s.lit r o t c q).mono (fun _ _ _ _ h => h) (by rw [e]), s.ice⟩
  obtain ⟨o, ho, hr⟩ := s.dom b x hx
  refine ⟨o, ho, ?_⟩
  cases o <;> simp only [BRel, e] at hr ⊢ <;> exact hr
theorem Go1.refl {m : BM} {h : HG} {w : World} (s : Sim m h w) : Go1 m h w m h w :=
  ⟨Le.refl _ _, s, Nat.le_refl _, fun _ _ hx => .inl hx, fun _ _ _ => rfl, fun _ _ _ hm => hm, fun _ _ ho _ => ho, fun _ o ho => ⟨o, ho⟩, fun _ _ _ hr => hr, rfl, .refl _, rfl, fun _ q => .inl q⟩
theorem Go1.heap {m m' : BM} {h h' : HG} {w w0 w' : World} (g : Go1 m h w0 m' h' w') (e : w0.heap = w.heap) (e1 : w0.os = w.os) (e2 : Tp w0 w) (e3 : w0.output = w.output) : Go1 m h w m' h' w' :=
  ⟨g.le, g.sim, by rw [← e]; exact g.size, fun b x hx => by rw [← e]; exact g.new b x hx, fun r hr hb => by rw [← e] at hr ⊢; exact g.frame r hr hb, g.un, g.idle, g.ex, g.rwb, g.os.trans e1, g.tape.trans e2, g.output.trans e3, fun r q => by rw [← e]; exact g.newl r q⟩
theorem Go1.trans {m m1 m2 : BM} {h h1 h2 : HG} {w w1 w2 : World} (a : Go1 m h w m1 h1 w1) (b : Go1 m1 h1 w1 m2 h2 w2) : Go1 m h w m2 h2 w2 := by
  refine ⟨a.le.trans b.le, b.sim, Nat.le_trans a.size b.size, ?_, ?_, ?_, fun c o ho hm => b.idle c o (a.idle c o ho hm) (a.un c o ho hm), ?_, ?_, b.os.trans a.os, b.tape.trans a.tape, b.output.trans a.output, ?_⟩
  · intro c x hx
    rcases b.new c x hx with hx | hx | ⟨b0, x0, hx0, hr0, e0⟩
    · exact a.new c x hx
    · exact .inr (.inl (Nat.le_trans a.size hx))
    · rcases a.new b0 x0 hx0 with h3 | h3 | ⟨b1, x1, hx1, hr1, e1⟩
      · exact .inr (.inr ⟨b0, x0, h3, a.rwb b0 x0 h3 hr0, e0⟩)
      · exact .inr (.inl (by rw [← e0]; exact h3))
      · exact .inr (.inr ⟨b1, x1, hx1, hr1, e1.trans e0⟩)
  · intro r hr hh
    rw [b.frame r (Nat.lt_of_lt_of_le hr a.size) ?_, a.frame r hr hh]
    intro c x hx hrw e
    rcases a.new c x hx with h3 | h3 | ⟨b1, x1, hx1, hr1, e1⟩
    · exact hh c x h3 (a.rwb c x h3 hrw) e
    · omega
    · exact hh b1 x1 hx1 hr1 (e1.trans e)
  · intro c o ho hm
    obtain ⟨o', ho'⟩ := a.ex c o ho
    exact b.un c o' ho' (a.un c o ho hm)
  · intro c o ho
    obtain ⟨o', ho'⟩ := a.ex c o ho
    exact b.ex c o' ho'
  · intro c x hx hrw
    rcases a.le.keep c x hx with hd | hk
    · have := b.le.dead c hd
      unfold rw? at hrw
      rw [this] at hrw
      simp at hrw
    · exact a.rwb c x hx (b.rwb c x hk hrw)
  · intro r q
    rcases b.newl r q with q | q | ⟨b0, x0, hx0, hr0, e0⟩
    · exact a.newl r q
    · exact .inr (.inl (Nat.le_trans a.size q))
    · rcases a.new b0 x0 hx0 with h3 | h3 | ⟨b1, x1, hx1, hr1, e1⟩
      · exact .inr (.inr ⟨b0, x0, h3, a.rwb b0 x0 h3 hr0, e0⟩)
      · exact .inr (.inl (by rw [← e0]; exact h3))
      · exact .inr (.inr ⟨b1, x1, hx1, hr1, e1.trans e0⟩)
omit [Inhabited Prop] in
theorem live_of_rw {h : HG} {b : Nat} (hr : rw? h b = true) : live? h b = true := by
  unfold rw? at hr; unfold live?
  split at hr <;> simp_all
end Go.Proofs.Ytbhmodlpolgklaa.AI
namespace Go.Proofs.Ytbhmodlpolgklaa.AI
open Go
variable [Inhabited Prop]
section
variable {P : Program} {w : World} {m : BM} {h : HG}
omit [Inhabited Prop] in
theorem run_info {t : TypeId} {i : TypeInfo} (hi : P.info? t = some i) : (typeInfo t).run P w = .ok i w := by simp [typeInfo, hi]
omit [Inhabited Prop] in
theorem run_size {t : TypeId} {n : Nat} (hn : tsize P t = some n) : (sizeOf t).run P w = .ok n w := by
  unfold tsize at hn
  cases hi : P.info? t with
  | none => simp [hi] at hn
  | some i => simp [hi] at hn; subst hn; simp [sizeOf, run_info hi]
omit [Inhabited Prop] in
theorem run_under {t : TypeId} {d : TypeDesc} (hd : P.underlying t = some d) : (underlying t).run P w = .ok d w := run_underlying hd w
omit [Inhabited Prop] in
theorem run_agg {t : TypeId} {b : Bool} (hb : tagg P t = some b) : (isAgg t).run P w = .ok b w := by
  unfold tagg at hb
  cases hd : P.underlying t with
  | none => simp [hd] at hb
  | some d =>
    simp only [hd] at hb
    simp only [isAgg, Sem.run_bind, run_under hd, Result.andThen_ok]
    cases d <;> simp at hb <;> subst hb <;> rfl
omit [Inhabited Prop] in
theorem run_zero {t : TypeId} {z : List Value} (hz : tzero P t = some z) : ∃ v, (zeroValue t).run P w = .ok v w ∧ cellsL v = z ∧ z.all AI.flat = true := by
  unfold tzero at hz
  cases hi : P.info? t with
  | none => simp [hi] at hz
  | some i =>
    simp only [hi, Option.bind_some] at hz
    cases hv : i.zero with
    | none => simp [hv] at hz
    | some v =>
      simp only [hv] at hz
      split at hz
      · rename_i ha; cases hz
        exact ⟨v, by simp [zeroValue, run_info hi, hv], rfl, ha⟩
      · cases hz
omit [Inhabited Prop] in
theorem run_part {t : TypeId} {cs cs' : Array Value} {off : Nat} {v : Value} (hp : partA P t cs off = some v) (r : VRelA m h cs cs') :
    ∃ v', (part t cs' off).run P w = .ok v' w ∧ VRel m h v v' := by
  unfold partA at hp
  split at hp
  · rename_i n ha hn
    cases hp
    refine ⟨.agg (cs'.extract off (off + n)), by simp [part, run_agg ha, run_size hn], ?_⟩
    have h1 := (r.toList.drop off).take n
    have h2 := VRel.agg' h1
    have e : ∀ x : Array Value, ((x.toList.drop off).take n).toArray = x.extract off (off + n) := by
      intro x
      apply Array.ext'
      simp
    rwa [e, e] at h2
  · rename_i n ha hn
    have hs : off < cs.size := (Array.getElem?_eq_some_iff.1 hp).1
    have hs' : off < cs'.size := r.1 ▸ hs
    refine ⟨cs'[off], ?_, r.2 off v cs'[off] hp (Array.getElem?_eq_getElem hs')⟩
    simp [part, run_agg ha, Array.getElem?_eq_getElem hs']
  · cases hp
omit [Inhabited Prop] in
theorem wrapF_eq (k : IntKind) (n : Int) : wrapF k n = k.wrap n := by
  unfold wrapF
  split
  · rename_i hr
    cases k <;> simp [inR] at hr <;> simp only [IntKind.wrap, IntKind.signed, IntKind.bits] <;> (try simp only [Bool.true_and, Bool.false_and]) 
    · split <;> simp_all <;> omega
    · split <;> simp_all <;> omega
  · rfl
omit [Inhabited Prop] in
theorem strEq_eq (x y : ByteArray) : strEq x y = (x.toList == y.toList) := by unfold strEq; rw [Lib.toList_data, Lib.toList_data]
omit [Inhabited Prop] in
theorem strEq_beq (x y : ByteArray) : strEq x y = (x == y) := by rw [strEq_eq, beq_toListBytes]
omit [Inhabited Prop] in
theorem strCat_eq (x y : ByteArray) : strCat x y = x ++ y := by
  unfold strCat
  apply ByteArray.ext
  simp
omit [Inhabited Prop] in
theorem aBinI_sound {op : BinOp} {t : TypeId} {k : IntKind} {a b : Int} {v : Value} (hv : aBinI op k a b = some v) :
    (binOp op t (.int k a) (.int k b)).run P w = .ok v w ∧ AI.flat v = true := by
  cases op <;> simp only [aBinI] at hv <;> (try split at hv) <;> (try cases hv) <;> (try contradiction) <;>
    refine ⟨?_, rfl⟩ <;> simp_all [binOp, Op.intArith, Op.intDiv, Op.intBits, Op.intCmp, wrapF_eq]
omit [Inhabited Prop] in
theorem aShift_sound {op : BinOp} {t : TypeId} {k k' : IntKind} {a b : Int} {v : Value} (ho : op = .shl ∨ op = .shr) (hv : aShift op k a b = some v) :
    (binOp op t (.int k a) (.int k' b)).run P w = .ok v w ∧ AI.flat v = true := by
  unfold aShift at hv
  split at hv
  · cases hv
  · rename_i hb
    rcases ho with rfl | rfl <;> simp only at hv <;> cases hv <;> refine ⟨?_, rfl⟩ <;> simp [binOp, Op.shift, hb, wrapF_eq]
omit [Inhabited Prop] in
theorem aBinS_sound {op : BinOp} {t : TypeId} {x y : ByteArray} {v : Value} (hv : aBinS op x y = some v) :
    (binOp op t (.string x) (.string y)).run P w = .ok v w ∧ AI.flat v = true := by
  cases op <;> simp only [aBinS] at hv <;> (try split at hv) <;> (try cases hv) <;> (try contradiction) <;>
    refine ⟨?_, rfl⟩ <;> simp [binOp, Op.stringOp, strEq_eq, strCat_eq, Lib.toList_data]
  rename_i hs
  omega
omit [Inhabited Prop] in
theorem aEq_sound : ∀ (d : Nat) {t : TypeId} {x y x' y' : Value} {r : Bool}, aEq P d t x y = some r → VRel m h x x' → VRel m h y y' →
    ∀ D, d ≤ D → (Op.equalIn D t x' y').run P w = .ok r w
  | 0, t, x, y, x', y', r, he, rx, ry, D, hD => by simp [aEq] at he
  | d + 1, t, x, y, x', y', r, he, rx, ry, D, hD => by
    obtain ⟨D, rfl⟩ : ∃ k, D = k + 1 := ⟨D - 1, by omega⟩
    have ih := fun {t : TypeId} {x y x' y' : Value} {r : Bool} => aEq_sound d (t := t) (x := x) (y := y) (x' := x') (y' := y') (r := r)
    unfold aEq at he
    split at he
    · rename_i hu; cases he; rw [rx.of_bool, ry.of_bool]; simp [Op.equalIn, run_under hu]
    · rename_i hu
      split at he
      · rename_i hk; cases he; rw [rx.of_int, ry.of_int]; simp [Op.equalIn, run_under hu, hk]
      · cases he
    · rename_i hu; cases he; rw [rx.of_string, ry.of_string]; simp [Op.equalIn, run_under hu, strEq_beq]
    · rename_i hu; cases he
      obtain rfl := rx.of_flat rfl
      rename_i b
      cases b with
      | none => obtain rfl := ry.of_flat rfl; simp [Op.equalIn, run_under hu]
      | some a => obtain ⟨_, _, _, _, _, rfl, _⟩ := ry.of_ptr; simp [Op.equalIn, run_under hu]
    · rename_i hu; cases he
      obtain ⟨_, _, _, _, _, rfl, _⟩ := rx.of_ptr
      obtain rfl := ry.of_flat rfl
      simp [Op.equalIn, run_under hu]
    · rename_i hu; cases he
      obtain ⟨_, _, rfl⟩ := rx.of_nilslice
      rename_i b _ _ _ _
      cases b with
      | none => obtain ⟨_, _, rfl⟩ := ry.of_nilslice; simp [Op.equalIn, run_under hu]
      | some a => obtain ⟨_, _, _, _, _, _, rfl, _, _⟩ := ry.of_slice; simp [Op.equalIn, run_under hu]
    · rename_i hu; cases he
      obtain ⟨_, _, _, _, _, _, rfl, _, _⟩ := rx.of_slice
      obtain ⟨_, _, rfl⟩ := ry.of_nilslice
      simp [Op.equalIn, run_under hu]
    · rename_i hu; cases he
      obtain rfl := rx.of_flat rfl
      rename_i b
      cases b with
      | none => obtain rfl := ry.of_flat rfl; simp [Op.equalIn, run_under hu]
      | some a => obtain ⟨_, rfl, _⟩ := ry.of_map; simp [Op.equalIn, run_under hu]
    · rename_i hu; cases he
      obtain ⟨_, rfl, _⟩ := rx.of_map
      obtain rfl := ry.of_flat rfl
      simp [Op.equalIn, run_under hu]
    · rename_i hu; cases he; obtain rfl := rx.of_flat rfl; obtain rfl := ry.of_flat rfl; simp [Op.equalIn, run_under hu]
    · rename_i fn _ _ hu; cases he; obtain rfl := rx.of_flat rfl
      cases ry with
      | flat hf => simp [AI.flat] at hf
      | func => simp [Op.equalIn, run_under hu]
    · rename_i fn _ _ hu; cases he; obtain rfl := ry.of_flat rfl
      cases rx with
      | flat hf => simp [AI.flat] at hf
      | func => simp [Op.equalIn, run_under hu]
    · rename_i fs xs ys hu
      obtain ⟨xs', rfl, rx'⟩ := rx.of_agg
      obtain ⟨ys', rfl, ry'⟩ := ry.of_agg
      split at he
      · cases he
      · rename_i hp
        have hf : P.fieldsOf t = fs := by simp [Program.fieldsOf, hu]
        rw [run_equalIn_struct (P := P) w D t xs' ys' (by rw [hf]; exact hu) hp, hf]
        clear hf hp hu
        generalize fs.toList = l at he
        induction l generalizing r with
        | nil => simp at he; subst he; simp [Op.eqFields]
        | cons f l ihl =>
          simp only [List.foldr_cons] at he
          split at he
          · rename_i hn
            have hn' : ¬ (f.name ≠ "_") := by simpa using hn
            rw [Op.eqFields, if_neg hn']
            exact ihl _ he
          · rename_i hn
            have hn' : f.name ≠ "_" := by simpa using hn
            split at he
            · rename_i a b ha hb
              obtain ⟨a', ha', ra⟩ := run_part (P := P) (w := w) ha rx'
              obtain ⟨b', hb', rb⟩ := run_part (P := P) (w := w) hb ry'
              rw [Op.eqFields, if_pos hn']
              simp only [Sem.run_bind, ha', hb', Result.andThen_ok]
              split at he
              · rename_i hab
                rw [ih hab ra rb D (by omega)]
                simpa using ihl _ he
              · rename_i hab
                rw [ih hab ra rb D (by omega)]
                cases he
                simp
              · cases he
            · cases he
    · cases he
omit [Inhabited Prop] in
theorem run_guard_of {op : BinOp} {t : TypeId} {ox oy : Operand} {a b : Value} (ha : eqKind a = true ∨ (∃ k n, a = .int k n) ∨ ∃ s, a = .string s) : (eqGuard op t ox oy a b).run P w = .ok () w := by
  unfold eqGuard
  rcases ha with ha | ⟨k, n, rfl⟩ | ⟨s, rfl⟩
  · cases op <;> simp <;> (cases a <;> simp_all [eqKind])
  · cases op <;> simp
  · cases op <;> simp
omit [Inhabited Prop] in
theorem run_guard_agg {op : BinOp} {t : TypeId} {ox oy : Operand} {xs ys : Array Value} (hg : P.eqGuardType P.depth t = false) : (eqGuard op t ox oy (.agg xs) (.agg ys)).run P w = .ok () w := by
  unfold eqGuard
  cases op <;> simp [hg]
omit [Inhabited Prop] in
theorem VRel.eqKind {x x' : Value} (r : VRel m h x x') (hk : AI.eqKind x = true) : AI.eqKind x' = true := by
  cases r with
  | flat hf => exact hk
  | agg => simp [AI.eqKind] at hk
  | tuple => simp [AI.eqKind] at hk
  | junk => simp [AI.eqKind] at hk
  | _ => rfl
omit [Inhabited Prop] in
theorem binOp_eql {t : TypeId} {x y : Value} (hx : eqKind x = true) (hy : eqKind y = true) : binOp .eql t x y = (do pure (.bool (← Op.equal t x y))) := by
  cases x <;> simp [eqKind] at hx <;> cases y <;> simp [eqKind] at hy <;> rfl
omit [Inhabited Prop] in
theorem binOp_neq {t : TypeId} {x y : Value} (hx : eqKind x = true) (hy : eqKind y = true) : binOp .neq t x y = (do pure (.bool (!(← Op.equal t x y)))) := by
  cases x <;> simp [eqKind] at hx <;> cases y <;> simp [eqKind] at hy <;> rfl
omit [Inhabited Prop] in
theorem aBin_sound {op : BinOp} {t : TypeId} {x y x' y' v : Value} {ox oy : Operand} (hv : aBin P op t x y = some v) (rx : VRel m h x x') (ry : VRel m h y y') :
    (do eqGuard op t ox oy x' y'; binOp op t x' y').run P w = .ok v w ∧ AI.flat v = true := by
  unfold aBin at hv
  split at hv
  · rename_i k a k' b
    obtain rfl := rx.of_int
    obtain rfl := ry.of_int
    rw [Sem.run_bind, run_guard_of (.inr (.inl ⟨_, _, rfl⟩)), Result.andThen_ok]
    split at hv
    · exact aShift_sound (.inl rfl) hv
    · exact aShift_sound (.inr rfl) hv
    · split at hv
      · rename_i hk; subst hk; exact aBinI_sound hv
      · cases hv
  · obtain rfl := rx.of_string
    obtain rfl := ry.of_string
    rw [Sem.run_bind, run_guard_of (.inr (.inr ⟨_, rfl⟩)), Result.andThen_ok]
    exact aBinS_sound hv
  · rename_i xs ys
    obtain ⟨xs', rfl, rx'⟩ := rx.of_agg
    obtain ⟨ys', rfl, ry'⟩ := ry.of_agg
    split at hv
    · cases hv
    · rename_i hg
      rw [Sem.run_bind, run_guard_agg hg, Result.andThen_ok]
      split at hv
      · obtain ⟨r, hr, rfl⟩ := Option.map_eq_some_iff.1 hv
        have := aEq_sound (w := w) 30 hr rx ry Op.maxDepth (by decide)
        refine ⟨?_, rfl⟩
        simp [binOp, Op.equal, this]
      · obtain ⟨r, hr, rfl⟩ := Option.map_eq_some_iff.1 hv
        have := aEq_sound (w := w) 30 hr rx ry Op.maxDepth (by decide)
        refine ⟨?_, rfl⟩
        simp [binOp, Op.equal, this]
      · cases hv
  · split at hv
    · cases hv
    · rename_i hk
      simp only [Bool.and_eq_true] at hk
      have hx := rx.eqKind hk.1
      have hy := ry.eqKind hk.2
      rw [Sem.run_bind, run_guard_of (.inl hx), Result.andThen_ok]
      split at hv
      · obtain ⟨r, hr, rfl⟩ := Option.map_eq_some_iff.1 hv
        have := aEq_sound (w := w) 30 hr rx ry Op.maxDepth (by decide)
        refine ⟨?_, rfl⟩
        simp [binOp_eql hx hy, Op.equal, this]
      · obtain ⟨r, hr, rfl⟩ := Option.map_eq_some_iff.1 hv
        have := aEq_sound (w := w) 30 hr rx ry Op.maxDepth (by decide)
        refine ⟨?_, rfl⟩
        simp [binOp_neq hx hy, Op.equal, this]
      · cases hv
omit [Inhabited Prop] in
theorem aUn_sound {op : UnOp} {x x' v : Value} (hv : aUn op x = some v) (rx : VRel m h x x') : (Op.unary op x').run P w = .ok v w ∧ AI.flat v = true := by
  unfold aUn at hv
  split at hv
  · obtain rfl := rx.of_bool; cases hv; exact ⟨rfl, rfl⟩
  · obtain rfl := rx.of_int; cases hv; exact ⟨by simp [Op.unary, Op.intArith, wrapF_eq], rfl⟩
  · cases hv
omit [Inhabited Prop] in
theorem aConv_sound {src dst : TypeId} {x x' v : Value} (hv : aConv P src dst x = some v) (rx : VRel m h x x') : (convert src dst x').run P w = .ok v w ∧ AI.flat v = true := by
  unfold aConv at hv
  split at hv
  · rename_i hs hd; obtain rfl := rx.of_int; cases hv
    exact ⟨by simp [convert, run_under hs, run_under hd, Conv.intToInt, wrapF_eq], rfl⟩
  · rename_i hs hd; obtain rfl := rx.of_string; cases hv
    exact ⟨by simp [convert, run_under hs, run_under hd], rfl⟩
  · cases hv
end
end Go.Proofs.Ytbhmodlpolgklaa.AI
namespace Go.Proofs.Ytbhmodlpolgklaa.AI
open Go
variable [Inhabited Prop]
omit [Inhabited Prop] in
theorem putL_nil (cs : List Value) (n : Nat) : putL cs n [] = cs := by
  induction cs generalizing n with
  | nil => rfl
  | cons c cs ih => cases n with
    | zero => rfl
    | succ n => simp [putL, ih]
omit [Inhabited Prop] in
theorem putL_cons (v : Value) (vs : List Value) : ∀ (cs : List Value) (n : Nat), putL cs n (v :: vs) = putL (cs.set n v) (n + 1) vs
  | [], n => by simp [putL]
  | c :: cs, 0 => by
    simp only [putL, List.set_cons_zero]
  | c :: cs, n + 1 => by
    simp only [putL, List.set_cons_succ]
    rw [putL_cons v vs cs n]
omit [Inhabited Prop] in
theorem putL_length : ∀ (cs : List Value) (n : Nat) (vs : List Value), (putL cs n vs).length = cs.length
  | [], n, vs => by simp [putL]
  | c :: cs, 0, [] => rfl
  | c :: cs, 0, v :: vs => by simp [putL, putL_length cs 0 vs]
  | c :: cs, n + 1, vs => by simp [putL, putL_length cs n vs]
omit [Inhabited Prop] in
theorem putL_get : ∀ (cs : List Value) (n : Nat) (vs : List Value) (i : Nat), (putL cs n vs)[i]? = if n ≤ i ∧ i < n + vs.length ∧ i < cs.length then vs[i - n]? else cs[i]?
  | [], n, vs, i => by simp [putL]
  | c :: cs, 0, [], i => by simp [putL]
  | c :: cs, 0, v :: vs, i => by
    cases i with
    | zero => simp [putL]
    | succ i =>
      simp only [putL, List.getElem?_cons_succ, putL_get cs 0 vs i, List.length_cons]
      by_cases hc : 0 ≤ i ∧ i < 0 + vs.length ∧ i < cs.length
      · rw [if_pos hc, if_pos ⟨by omega, by omega, by omega⟩]; simp
      · rw [if_neg hc, if_neg (by omega)]
  | c :: cs, n + 1, vs, i => by
    cases i with
    | zero => simp [putL]
    | succ i =>
      simp only [putL, List.getElem?_cons_succ, putL_get cs n vs i, List.length_cons]
      by_cases hc : n ≤ i ∧ i < n + vs.length ∧ i < cs.length
      · rw [if_pos hc, if_pos ⟨by omega, by omega, by omega⟩, show i + 1 - (n + 1) = i - n from by omega]
      · rw [if_neg hc, if_neg (by omega)]
section
variable {P : Program} {w : World} {m : BM} {h : HG}
omit [Inhabited Prop] in
theorem VRelL.put {asv bs vs us : List Value} (r : VRelL m h asv bs) (s : VRelL m h vs us) (n : Nat) : VRelL m h (putL asv n vs) (putL bs n us) := by
  refine ⟨by rw [putL_length, putL_length, r.1], fun i v v' h1 h2 => ?_⟩
  rw [putL_get] at h1 h2
  by_cases hc : n ≤ i ∧ i < n + vs.length ∧ i < asv.length
  · rw [if_pos hc] at h1
    rw [if_pos ⟨hc.1, by rw [← s.1]; exact hc.2.1, by rw [← r.1]; exact hc.2.2⟩] at h2
    exact s.2 _ _ _ h1 h2
  · rw [if_neg hc] at h1
    rw [if_neg (by rw [← s.1, ← r.1]; exact hc)] at h2
    exact r.2 _ _ _ h1 h2
omit [Inhabited Prop] in
theorem foldl_put (off : Nat) : ∀ (vs : List Value) (k : Nat) (cs : Array Value),
    ((vs.zipIdx k).foldl (fun (cs : Array Value) (x : Value × Nat) => cs.setIfInBounds (off + x.2) x.1) cs).toList = putL cs.toList (off + k) vs
  | [], k, cs => by simp [putL_nil]
  | v :: vs, k, cs => by
    rw [List.zipIdx_cons, List.foldl_cons, foldl_put off vs (k + 1), putL_cons]
    simp [Nat.add_assoc]
def PRel (m : BM) (h : HG) : List (Nat × Value) → List (Nat × Value) → Prop
  | [], [] => True
  | p :: ps, q :: qs => p.1 = q.1 ∧ VRel m h p.2 q.2 ∧ PRel m h ps qs
  | _, _ => False
omit [Inhabited Prop] in
theorem aFill_sound {place : Nat → Option (Nat × Nat)} : ∀ {ps qs : List (Nat × Value)} {cs : List Value} {ds : Array Value} {r : List Value}, aFill place cs ps = some r → PRel m h ps qs →
    VRelL m h cs ds.toList → ∃ r', Instr.fill place ds qs = some r' ∧ VRelL m h r r'.toList ∧ r.length = cs.length
  | [], [], cs, ds, r, he, _, rc => by simp [aFill] at he; subst he; exact ⟨ds, rfl, rc, rfl⟩
  | [], q :: qs, _, _, _, _, hp, _ => hp.elim
  | p :: ps, [], _, _, _, _, hp, _ => hp.elim
  | (i, v) :: ps, (j, u) :: qs, cs, ds, r, he, hp, rc => by
    obtain ⟨h1, h2, h3⟩ := hp
    simp only at h1 h2
    subst h1
    have hd : cs.length = ds.size := by simpa using rc.1
    simp only [aFill] at he
    split at he
    · cases he
    · rename_i off size hpl
      split at he
      · cases he
      · rename_i hb
        have hj : isJunk v = false := by
          cases e : isJunk v with
          | false => rfl
          | true => exact absurd (by rw [e]; rfl) hb
        rw [hj, Bool.false_or] at hb
        have hc := h2.cells hj
        have hl : u.cells.size = (cellsL v).length := by rw [hc.1, ← cells_toList]; simp
        have hb' : ¬ (u.cells.size ≠ size || decide (off + u.cells.size > ds.size)) = true := by rw [hl, ← hd]; simpa using hb
        have e : (u.cells.zipIdx.foldl (fun (cs : Array Value) (x : Value × Nat) => cs.setIfInBounds (off + x.2) x.1) ds).toList = putL ds.toList off (cellsL u) := by
          rw [← cells_toList, ← Array.foldl_toList, Array.toList_zipIdx]
          exact foldl_put off _ 0 _
        obtain ⟨r', hr', hrr, hlen⟩ := aFill_sound (ds := u.cells.zipIdx.foldl (fun (cs : Array Value) (x : Value × Nat) => cs.setIfInBounds (off + x.2) x.1) ds) he h3 (by rw [e]; exact rc.put hc off)
        refine ⟨r', ?_, hrr, by rw [hlen, putL_length]⟩
        simp only [Instr.fill, hpl]
        rw [if_neg (by simpa using hb')]
        exact hr'
omit [Inhabited Prop] in
theorem run_places : ∀ {fs : List Field} {ps : List (Nat × Nat)}, placesOf P fs = some ps →
    (fs.mapM fun f => do pure (f.offset, ← sizeOf f.type) : Sem (List (Nat × Nat))).run P w = .ok ps w
  | [], ps, he => by simp [placesOf] at he; subst he; simp
  | f :: fs, ps, he => by
    simp only [placesOf] at he
    split at he
    · rename_i n r hn hr
      cases he
      have ih := run_places hr
      rw [List.mapM_cons]
      simp only [Sem.run_bind, Sem.run_pure, run_size hn, Result.andThen_ok, ih]
    · cases he
omit [Inhabited Prop] in
theorem aBuild_sound {t : TypeId} {ps : List (Nat × Value)} {qs : Array (Nat × Value)} {v : Value} (he : aBuild P t ps = some v) (hp : PRel m h ps qs.toList) :
    ∃ v', (Instr.build t qs).run P w = .ok v' w ∧ VRel m h v v' := by
  unfold aBuild at he
  split at he
  · cases he
  · rename_i zero hz
    obtain ⟨z, hz1, hz2, hz3⟩ := run_zero (w := w) hz
    have hzr : VRelL m h zero z.cells.toList := by rw [cells_toList, hz2]; exact VRelL.flats hz3
    split at he
    · rename_i fields hu
      split at he
      · cases he
      · rename_i places hpl
        obtain ⟨cs, hc, rfl⟩ := Option.map_eq_some_iff.1 he
        obtain ⟨r', hr', hrr, _⟩ := aFill_sound hc hp hzr
        refine ⟨.agg r', ?_, by have := VRel.agg' hrr; simpa using this⟩
        have hm := run_places (P := P) (w := w) hpl
        simp only [Instr.build, Sem.run_bind, hz1, Result.andThen_ok, run_under hu]
        rw [Array.mapM_eq_mapM_toList]
        simp only [Sem.run_map, hm, Result.andThen_ok]
        have e : (fun x : Nat => (places.toArray)[x]?) = fun x => places[x]? := by funext x; simp
        rw [e, hr']
        rfl
    · rename_i n elem hu
      split at he
      · cases he
      · rename_i size hs
        obtain ⟨cs, hc, rfl⟩ := Option.map_eq_some_iff.1 he
        obtain ⟨r', hr', hrr, _⟩ := aFill_sound hc hp hzr
        refine ⟨.agg r', ?_, by have := VRel.agg' hrr; simpa using this⟩
        simp only [Instr.build, Sem.run_bind, hz1, Result.andThen_ok, run_under hu, run_size hs, hr']
        rfl
    · cases he
omit [Inhabited Prop] in
theorem repL_length (z : List Value) : ∀ n, (repL z n).length = n * z.length
  | 0 => by simp [repL]
  | n + 1 => by simp [repL, repL_length z n, Nat.succ_mul]; omega
omit [Inhabited Prop] in
theorem repL_get (z : List Value) : ∀ n i, i < n * z.length → (repL z n)[i]? = z[i % z.length]?
  | 0, i, hi => by simp at hi
  | n + 1, i, hi => by
    simp only [repL]
    by_cases hz : i < z.length
    · rw [List.getElem?_append_left hz, Nat.mod_eq_of_lt hz]
    · rw [List.getElem?_append_right (by omega), repL_get z n (i - z.length) (by rw [Nat.succ_mul] at hi; omega)]
      congr 1
      rw [← Nat.mod_eq_sub_mod (by omega)]
omit [Inhabited Prop] in
theorem range_zero (z : Array Value) (n : Nat) (hz : n * z.size = 0 ∨ 0 < z.size) : ((Array.range (n * z.size)).map (z[· % z.size]!)).toList = repL z.toList n := by
  apply List.ext_getElem?
  intro i
  by_cases hi : i < n * z.size
  · rw [repL_get _ _ _ (by simpa using hi)]
    have h0 : 0 < z.size := by
      rcases hz with hz | hz
      · omega
      · exact hz
    have hm : i % z.size < z.size := Nat.mod_lt _ h0
    simp only [Array.toList_map, Array.toList_range, List.getElem?_map, Array.length_toList]
    rw [List.getElem?_range hi]
    simp [hm]
  · rw [List.getElem?_eq_none (by simp; omega), List.getElem?_eq_none (by rw [repL_length]; simpa using hi)]
omit [Inhabited Prop] in
theorem repL_flat {z : List Value} (hz : z.all AI.flat = true) : ∀ n, (repL z n).all AI.flat = true
  | 0 => rfl
  | n + 1 => by simp only [repL, List.all_append, hz, repL_flat hz n, Bool.and_self]
def updH (h : HG) (b : Nat) (o : Blk) : HG := fun x => if x = b then some o else h x
def updM (m : BM) (b : Nat) (x : Nat × Nat × Nat) : BM := ⟨fun y => if y = b then some x else m y, m.lit⟩
omit [Inhabited Prop] in
theorem updM_at {b : Nat} {x : Nat × Nat × Nat} {y : Nat} : (updM m b x) y = if y = b then some x else m y := rfl
omit [Inhabited Prop] in
theorem Le.push {sz : Nat} {o : Blk} {x : Nat × Nat × Nat} (hs : h sz = none) (hm : m sz = none) : Le m h (updM m sz x) (updH h sz o) := by
  constructor
  · intro b hb
    unfold updH
    by_cases e : b = sz
    · subst e; rw [hs] at hb; cases hb
    · rw [if_neg e]; exact hb
  · intro b y hb
    refine .inr ?_
    simp only [updM_at]
    by_cases e : b = sz
    · subst e; rw [hm] at hb; cases hb
    · rw [if_neg e]; exact hb
  · exact fun _ _ _ _ h => h
omit [Inhabited Prop] in
theorem BRel.mono {m' : BM} {h' : HG} {w' : World} (l : Le m h m' h') {x : Nat × Nat × Nat} {o : Blk} (r : BRel m h w x o) (hw : w'.heap[x.1]? = w.heap[x.1]?) : BRel m' h' w' x o := by
  cases o with
  | cells ty cs ro =>
    obtain ⟨c, fr, h1, h2, h3, h4, h5⟩ := r
    exact ⟨c, fr, by rw [hw]; exact h1, h2, h3, fun i v v' a b => (h4 i v v' a b).mono l, h5⟩
  | map es cl ro =>
    obtain ⟨fs, h1, h2, h3⟩ := r
    exact ⟨fs, by rw [hw]; exact h1, h2, fun i e f a b => by
      obtain ⟨p, q, r, s⟩ := h3 i e f a b
      exact ⟨p, q, r.mono l, s⟩⟩
  | dead => trivial
theorem push_go (s : Sim m h w) {sz : Nat} (hs : h sz = none) {o : Blk} {obj : Obj} {E : Nat}
    (hb : ∀ m' h', Le m h m' h' → BRel m' h' (w.alloc obj) (w.heap.size, 0, E) o) :
    Go1 m h w (updM m sz (w.heap.size, 0, E)) (updH h sz o) (w.alloc obj) := by
  have hm : m sz = none := by
    cases e : m sz with
    | none => rfl
    | some x => obtain ⟨o, ho, _⟩ := s.dom _ _ e; rw [hs] at ho; cases ho
  have l := Le.push (m := m) (h := h) (o := o) (x := (w.heap.size, 0, E)) hs hm
  have hold : ∀ k, k < w.heap.size → (w.alloc obj).heap[k]? = w.heap[k]? := fun k hk => by
    show (w.heap.push obj)[k]? = _
    rw [Array.getElem?_push, if_neg (by omega)]
  have hrw : ∀ b, b ≠ sz → updH h sz o b = h b := fun b e => by unfold updH; rw [if_neg e]
  refine Go0.go ⟨l, ⟨?_, ?_⟩, by show _ ≤ (w.heap.push obj).size; simp, ?_, ?_, ?_, fun c oc hc _ => by
    have e : c ≠ sz := by intro e; subst e; rw [hc] at hs; cases hs
    rw [hrw c e]; exact hc, ?_, ?_, rfl, ⟨rfl, fun _ => Nat.le_refl _⟩, rfl⟩ s rfl
  · intro b x hx
    by_cases e : b = sz
    · subst e
      simp [updM] at hx
      subst hx
      exact ⟨o, by simp [updH], hb _ _ l⟩
    · have hx' : m b = some x := by simpa [updM, e] using hx
      obtain ⟨o', ho', hr⟩ := s.dom b x hx'
      refine ⟨o', by rw [hrw b e]; exact ho', ?_⟩
      by_cases hd : o' = .dead
      · subst hd; trivial
      · refine hr.mono l (hold _ (s.lt hx' ?_))
        unfold live?
        rw [ho']
        cases o' <;> simp_all
  · intro b b' x x' hx hx' hr hl hxx
    by_cases e : b = sz <;> by_cases e' : b' = sz
    · rw [e, e']
    · subst e
      simp [updM] at hx
      subst hx
      have hx2 : m b' = some x' := by simpa [updM, e'] using hx'
      have hl2 : live? h b' = true := by unfold live? at hl ⊢; rwa [hrw b' e'] at hl
      have := s.lt hx2 hl2
      simp at hxx; omega
    · subst e'
      simp [updM] at hx'
      subst hx'
      have hx2 : m b = some x := by simpa [updM, e] using hx
      have hr2 : rw? h b = true := by unfold rw? at hr ⊢; rwa [hrw b e] at hr
      have := s.lt hx2 (live_of_rw hr2)
      simp at hxx; omega
    · have hx2 : m b = some x := by simpa [updM, e] using hx
      have hx3 : m b' = some x' := by simpa [updM, e'] using hx'
      exact s.inj b b' x x' hx2 hx3 (by unfold rw? at hr ⊢; rwa [hrw b e] at hr) (by unfold live? at hl ⊢; rwa [hrw b' e'] at hl) hxx
  · intro b x hx
    by_cases e : b = sz
    · subst e
      simp [updM] at hx
      subst hx
      exact .inr (.inl (Nat.le_refl _))
    · exact .inl (by simpa [updM, e] using hx)
  · intro r hr _
    exact hold r hr
  · intro b o' hb' hm'
    simp only [updM_at]
    by_cases e : b = sz
    · subst e; rw [hs] at hb'; cases hb'
    · rw [if_neg e]; exact hm'
  · intro b o' hb'
    by_cases e : b = sz
    · subst e; exact ⟨o, by simp [updH]⟩
    · exact ⟨o', by rw [hrw b e]; exact hb'⟩
  · intro b x hx hr
    by_cases e : b = sz
    · subst e; rw [hm] at hx; cases hx
    · unfold rw? at hr ⊢; rwa [hrw b e] at hr
omit [Inhabited Prop] in
theorem cells_new {cs : List Value} {c : Array Value} {ty : TypeId} {fr : Nat × Nat} (hc : VRelL m h cs (c.toList.take cs.length)) (hl : cs.length ≤ c.size) (hf : ∀ j, j ≤ c.size → ¬ (fr.1 ≤ j ∧ j < fr.2)) :
    ∀ m' h', Le m h m' h' → BRel m' h' (w.alloc (.cells c ty fr)) (w.heap.size, 0, c.size) (.cells ty cs false) := by
  intro m' h' l
  refine ⟨c, fr, by show (w.heap.push _)[_]? = _; simp, by simpa using hl, Nat.le_refl _, ?_, fun _ => hf, fun h => by cases h⟩
  intro i v v' h1 h2
  have hi : i < cs.length := (List.getElem?_eq_some_iff.1 h1).1
  refine (hc.2 i v v' h1 ?_).mono l
  rw [List.getElem?_take, if_pos hi]
  simpa using h2
omit [Inhabited Prop] in
theorem cells_new_all {cs : List Value} {c : Array Value} {ty : TypeId} (hc : VRelL m h cs c.toList) :
    ∀ m' h', Le m h m' h' → BRel m' h' (w.alloc (.cells c ty)) (w.heap.size, 0, c.size) (.cells ty cs false) := by
  have hl : cs.length = c.size := by simpa using hc.1
  refine cells_new (fr := (0, 0)) ?_ (by omega) (fun j _ => by simp)
  rw [List.take_of_length_le (by simp; omega)]
  exact hc
omit [Inhabited Prop] in
theorem updM_self {sz : Nat} {x : Nat × Nat × Nat} : updM m sz x sz = some x := by simp [updM]
end
end Go.Proofs.Ytbhmodlpolgklaa.AI
namespace Go.Proofs.Ytbhmodlpolgklaa.AI
open Go
variable [Inhabited Prop]
section
variable {P : Program} {w : World} {m : BM} {h : HG}
def Lays (P : Program) (m : BM) (h : HG) (w : World) (sz : Nat) (ob : Option Blk) (v : Value) (r : Result Value) : Prop :=
  match ob with
  | none => ∃ v', r = .ok v' w ∧ VRel m h v v'
  | some o => ∃ v' obj E, r = .ok v' (w.alloc obj) ∧ VRel (updM m sz (w.heap.size, 0, E)) (updH h sz o) v v' ∧
      ∀ m' h', Le m h m' h' → BRel m' h' (w.alloc obj) (w.heap.size, 0, E) o
omit [Inhabited Prop] in
theorem ptr_new {sz E : Nat} {o : Blk} : VRel (updM m sz (w.heap.size, 0, E)) (updH h sz o) (ptr0 sz) (.pointer (some ⟨w.heap.size, 0, none⟩)) :=
  .ptr (.inr ⟨0, E, updM_self, rfl⟩)
omit [Inhabited Prop] in
theorem alloc_sound {sz : Nat} {elem : TypeId} {z : List Value} (hz : tzero P elem = some z) :
    Lays P m h w sz (some (.cells elem z false)) (ptr0 sz) ((Instr.alloc elem true (.tuple #[])).run P w) := by
  obtain ⟨v, h1, h2, h3⟩ := run_zero (w := w) hz
  refine ⟨_, .cells v.cells elem, v.cells.size, ?_, ptr_new, cells_new_all ?_⟩
  · simp only [Instr.alloc, Sem.run_bind, h1, Result.andThen_ok]
    rfl
  · rw [cells_toList, h2]; exact VRelL.flats h3
omit [Inhabited Prop] in
theorem box_sound {sz : Nat} {elem : TypeId} {x x' : Value} (hj : isJunk x = false) (rx : VRel m h x x') :
    Lays P m h w sz (some (.cells elem (cellsL x) false)) (ptr0 sz) ((Instr.box elem x').run P w) :=
  ⟨_, .cells x'.cells elem, x'.cells.size, rfl, ptr_new, cells_new_all (by rw [cells_toList]; exact rx.cells hj)⟩
omit [Inhabited Prop] in
theorem aBuildSlice_sound {sz : Nat} {t : TypeId} {len : Nat} {ps : List (Nat × Value)} {qs : Array (Nat × Value)} {v : Value} {o : Blk} (he : aBuildSlice P sz t len ps = some (v, o)) (hp : PRel m h ps qs.toList) :
    Lays P m h w sz (some o) v ((Instr.buildSlice t len qs).run P w) := by
  unfold aBuildSlice at he
  split at he
  · rename_i elem hu
    split at he
    · rename_i size zero hs hz
      split at he
      · cases he
      · rename_i hc
        simp only [Bool.or_eq_true, decide_eq_true_eq, not_or, Nat.not_lt, gt_iff_lt] at hc
        obtain ⟨⟨hc1, hc2⟩, hc3⟩ := hc
        obtain ⟨cs, hcs, hvo⟩ := Option.map_eq_some_iff.1 he
        cases hvo
        obtain ⟨z, h1, h2, h3⟩ := run_zero (w := w) hz
        have hzs : z.cells.size = size := by
          have : z.cells.toList.length = size := by rw [cells_toList, h2]; simpa using hc2
          simpa using this
        have e : ∀ y : Array Value, (if len * size = 0 then y = #[] else y = z.cells) → ((Array.range (len * size)).map (y[· % y.size]!)).toList = repL zero len := by
          intro y hy
          split at hy
          · rename_i h0
            have hl : len = 0 := by
              rcases Nat.mul_eq_zero.1 h0 with h0 | h0
              · exact h0
              · exact absurd h0 hc1
            subst hl; simp [repL]
          · subst hy
            rw [← hzs, range_zero _ _ (.inr (by omega)), cells_toList, h2]
        have hrz := VRelL.flats (m := m) (h := h) (repL_flat h3 len)
        have hf := VRelL.flats (m := m) (h := h) (repL_flat h3 len)
        by_cases h0 : len * size = 0
        · have e0 := e #[] (by rw [if_pos h0])
          obtain ⟨r', hr', hrr, hlen⟩ := aFill_sound (ds := (Array.range (len * size)).map ((#[] : Array Value)[· % (#[] : Array Value).size]!)) hcs hp (by rw [e0]; exact hf)
          refine ⟨.slice (some ⟨w.heap.size, 0, none⟩) len len, .cells r' elem, r'.size, ?_, ?_, cells_new_all hrr⟩
          · simp only [Instr.buildSlice, Sem.run_bind, run_under hu, run_size hs, Result.andThen_ok, h0, if_true]
            rw [if_neg (by omega)]
            simp only [Sem.run_bind, Sem.run_pure, Result.andThen_ok]
            rw [h0] at hr'
            rw [hr']
            rfl
          · refine .slice (.of (Nat.le_refl _) (by omega)) (.inr ⟨0, _, updM_self, .inl rfl, fun hh => by omega, fun _ => ?_⟩)
            have : r'.size = (repL zero len).length := by rw [← hlen, hrr.1]; simp
            rw [this, repL_length, show (3 * size + 1) / 3 = size from by omega]
            simp at hc2; simp [hc2]
        · have e0 := e z.cells (by rw [if_neg h0])
          obtain ⟨r', hr', hrr, hlen⟩ := aFill_sound (ds := (Array.range (len * size)).map (z.cells[· % z.cells.size]!)) hcs hp (by rw [e0]; exact hf)
          refine ⟨.slice (some ⟨w.heap.size, 0, none⟩) len len, .cells r' elem, r'.size, ?_, ?_, cells_new_all hrr⟩
          · simp only [Instr.buildSlice, Sem.run_bind, run_under hu, run_size hs, Result.andThen_ok]
            rw [if_neg (by omega), if_neg h0]
            simp only [Sem.run_bind, Sem.run_pure, Result.andThen_ok, h1]
            rw [hr']
            rfl
          · refine .slice (.of (Nat.le_refl _) (by omega)) (.inr ⟨0, _, updM_self, .inl rfl, fun hh => by omega, fun _ => ?_⟩)
            have : r'.size = (repL zero len).length := by rw [← hlen, hrr.1]; simp
            rw [this, repL_length, show (3 * size + 1) / 3 = size from by omega]
            simp at hc2; simp [hc2]
    · cases he
  · cases he
omit [Inhabited Prop] in
theorem wrap_small {n : Int} (h0 : 0 ≤ n) (h1 : n ≤ 2147483647) : IntKind.i64.wrap n = n := by
  have e : inR .i64 n = true := by simp [inR]; omega
  rw [← wrapF_eq]; unfold wrapF
  rw [e]
omit [Inhabited Prop] in
theorem aMakeSlice_sound {sz : Nat} {t : TypeId} {l c l' c' v : Value} {o : Blk} (he : aMakeSlice P sz t l c = some (v, o)) (rl : VRel m h l l') (rc : VRel m h c c') :
    Lays P m h w sz (some o) v ((Instr.makeSlice t l' c').run P w) := by
  unfold aMakeSlice at he
  split at he
  · rename_i elem k1 l k2 c hu
    obtain rfl := rl.of_int
    obtain rfl := rc.of_int
    split at he
    · rename_i i zero hi hz
      split at he
      · cases he
      · rename_i hc
        simp only [Bool.or_eq_true, decide_eq_true_eq, not_or, Int.not_lt, gt_iff_lt, Nat.not_lt] at hc
        obtain ⟨⟨⟨⟨⟨hc1, hc2⟩, hc3⟩, hc4⟩, hc5⟩, hc6⟩ := hc
        cases he
        obtain ⟨z, h1, h2, h3⟩ := run_zero (w := w) hz
        have hs : tsize P elem = some i.size := by simp [tsize, hi]
        have hzs : z.cells.size = i.size := by
          have : z.cells.toList.length = i.size := by rw [cells_toList, h2]; simpa using hc2
          simpa using this
        have hb : (i.bytes : Int) * c ≤ 2 ^ 48 := by
          have h1 : (i.bytes : Int) ≤ 32768 := by omega
          have : (i.bytes : Int) * c ≤ 32768 * 2147483647 := Int.mul_le_mul h1 hc5 (by omega) (by omega)
          omega
        have e : ∀ y : Array Value, (if c.toNat * i.size = 0 then y = #[] else y = z.cells) → ((Array.range (c.toNat * i.size)).map (y[· % y.size]!)).toList = repL zero c.toNat := by
          intro y hy
          split at hy
          · rename_i h0
            have hl : c.toNat = 0 := by
              rcases Nat.mul_eq_zero.1 h0 with h0 | h0
              · exact h0
              · exact absurd h0 hc1
            rw [hl]; simp [repL]
          · subst hy
            rw [← hzs, range_zero _ _ (.inr (by omega)), cells_toList, h2]
        have hrun : ∃ y : Array Value, (if c.toNat * i.size = 0 then y = #[] else y = z.cells) ∧ (Instr.makeSlice t (.int k1 l) (.int k2 c)).run P w =
            .ok (.slice (some ⟨w.heap.size, 0, none⟩) l.toNat c.toNat) (w.alloc (.cells ((Array.range (c.toNat * i.size)).map (y[· % y.size]!)) elem)) := by
          by_cases h0 : c.toNat * i.size = 0
          · refine ⟨#[], by rw [if_pos h0], ?_⟩
            simp only [Instr.makeSlice, Sem.run_bind, run_under hu, Result.andThen_ok, asInt, asIntOf, Sem.run_pure, run_info hi, wrap_small (show 0 ≤ c by omega) hc5, wrap_small hc3 (show l ≤ 2147483647 by omega), run_askRoom, run_size hs]
            rw [if_neg (by simp; omega)]
            simp only [Sem.run_bind, Sem.run_pure, Result.andThen_ok, run_askRoom, run_size hs, h0, if_true]
            rfl
          · refine ⟨z.cells, by rw [if_neg h0], ?_⟩
            simp only [Instr.makeSlice, Sem.run_bind, run_under hu, Result.andThen_ok, asInt, asIntOf, Sem.run_pure, run_info hi, wrap_small (show 0 ≤ c by omega) hc5, wrap_small hc3 (show l ≤ 2147483647 by omega), run_askRoom, run_size hs]
            rw [if_neg (by simp; omega)]
            simp only [Sem.run_bind, Sem.run_pure, Result.andThen_ok, run_askRoom, run_size hs]
            rw [if_neg h0]
            simp only [Sem.run_bind, Sem.run_pure, Result.andThen_ok, h1]
            rfl
        obtain ⟨y, hy, hrun⟩ := hrun
        have ey := e y hy
        have hsz : ((Array.range (c.toNat * i.size)).map (y[· % y.size]!)).size = c.toNat * i.size := by simp
        refine ⟨_, _, _, hrun, ?_, cells_new_all (by rw [ey]; exact VRelL.flats (repL_flat h3 _))⟩
        refine .slice (.of (by omega) (by omega)) (.inr ⟨0, _, updM_self, .inl rfl, fun hh => by omega, fun _ => ?_⟩)
        rw [hsz, show (3 * i.size + 1) / 3 = i.size from by omega]
        omega
    · cases he
  · cases he
omit [Inhabited Prop] in
theorem addr_add (b off n : Nat) : (⟨b, off, none⟩ : Addr).add n = ⟨b, off + n, none⟩ := by unfold Addr.add; split <;> simp_all
omit [Inhabited Prop] in
theorem VRel.add {b off r off' n : Nat} (hh : h b = some .dead ∨ ∃ δ E, m b = some (r, δ, E) ∧ off' = δ + off) :
    VRel m h (.pointer (some ⟨b, off + n, none⟩)) (.pointer (some ⟨r, off' + n, none⟩)) := by
  refine .ptr ?_
  rcases hh with hh | ⟨δ, E, h1, h2⟩
  · exact .inl hh
  · exact .inr ⟨δ, E, h1, by omega⟩
omit [Inhabited Prop] in
theorem aFieldAddr_sound {s : TypeId} {x x' v : Value} {f : Nat} (he : aFieldAddr P s x f = some v) (rx : VRel m h x x') :
    ∃ v', (Instr.fieldAt s x' f).run P w = .ok v' w ∧ VRel m h v v' := by
  unfold aFieldAddr at he
  split at he
  · rename_i fields a hu
    split at he
    · rename_i fd hf
      split at he
      · cases he
      · rename_i n hn0 hn
        cases he
        obtain ⟨b, off, r, off', rfl, rfl, hh⟩ := rx.of_ptr
        refine ⟨_, ?_, VRel.add hh⟩
        have hn1 : n ≠ 0 := fun e => hn0 e
        simp [Instr.fieldAt, run_under hu, hf, Instr.sureAddr, fieldPlace, run_size hn, hn1, addr_add]
      · cases he
    · cases he
  · cases he
omit [Inhabited Prop] in
theorem aIndexAddr_sound {t : TypeId} {x x' ix ix' v : Value} (he : aIndexAddr P t x ix = some v) (rx : VRel m h x x') (ri : VRel m h ix ix') :
    ∃ v', (Instr.indexAt t x' ix').run P w = .ok v' w ∧ VRel m h v v' := by
  unfold aIndexAddr at he
  split at he
  · obtain rfl := ri.of_int
    split at he
    · rename_i k i _ len elem a hu
      split at he
      · rename_i n hn
        split at he
        · rename_i hb
          cases he
          obtain ⟨b, off, r, off', rfl, rfl, hh⟩ := rx.of_ptr
          refine ⟨_, ?_, VRel.add hh⟩
          simp [Instr.indexAt, asIntOf, run_under hu, Instr.sureAddr, hb, run_size hn, addr_add]
        · cases he
      · cases he
    · rename_i kk i od xv elem a len c hu
      split at he
      · rename_i n hn
        split at he
        · rename_i hb
          cases he
          obtain ⟨b, off, r, off', cap, rfl, rfl, hlc, hh⟩ := rx.of_slice
          refine ⟨.pointer (some ⟨r, off' + i.toNat * n, none⟩), ?_, ?_⟩
          · simp [Instr.indexAt, asIntOf, run_under hu, hb, run_size hn, addr_add]
          · refine .ptr ?_
            rcases hh with hh | ⟨δ, E, h1, h2, _⟩
            · exact .inl hh
            · refine .inr ⟨δ, E, h1, ?_⟩
              show off' + i.toNat * n = δ + (off + i.toNat * n)
              rcases h2 with h2 | h2
              · omega
              · omega
        · cases he
      · cases he
    · cases he
  · cases he
omit [Inhabited Prop] in
theorem aIndex_sound {t : TypeId} {x x' ix ix' v : Value} (he : aIndex P t x ix = some v) (rx : VRel m h x x') (ri : VRel m h ix ix') :
    ∃ v', (Instr.index t x' ix').run P w = .ok v' w ∧ VRel m h v v' := by
  unfold aIndex at he
  split at he
  · obtain rfl := ri.of_int
    split at he
    · rename_i k i _ len elem cs hu
      split at he
      · rename_i n hn
        split at he
        · rename_i hb
          obtain ⟨cs', rfl, rc⟩ := rx.of_agg
          obtain ⟨v', h1, h2⟩ := run_part (w := w) he rc
          exact ⟨v', by simp [Instr.index, asIntOf, run_under hu, hb, run_size hn, h1], h2⟩
        · cases he
      · cases he
    · rename_i kk i od xv s hu
      obtain rfl := rx.of_string
      split at he
      · rename_i h0
        obtain ⟨b, hb, rfl⟩ := Option.map_eq_some_iff.1 he
        refine ⟨_, ?_, .flat rfl⟩
        have hlt : i.toNat < s.size := by
          have := (List.getElem?_eq_some_iff.1 hb).1
          rw [Lib.size_eq]; exact this
        have e : s[i.toNat]? = some b := by
          rw [getElem?_pos s i.toNat hlt]
          have := (List.getElem?_eq_some_iff.1 hb).2
          simp only [Array.getElem_toList] at this
          rw [← this]; rfl
        simp only [Instr.index, Sem.run_bind, asIntOf, Sem.run_pure, Result.andThen_ok, run_under hu]
        rw [if_pos h0, e]
        rfl
      · cases he
    · cases he
  · cases he
omit [Inhabited Prop] in
theorem aField_sound {t : TypeId} {x x' v : Value} {f : Nat} (he : aField P t x f = some v) (rx : VRel m h x x') :
    ∃ v', (Instr.field t x' f).run P w = .ok v' w ∧ VRel m h v v' := by
  unfold aField at he
  split at he
  · rename_i fields cs hu
    split at he
    · rename_i fd hf
      obtain ⟨cs', rfl, rc⟩ := rx.of_agg
      obtain ⟨v', h1, h2⟩ := run_part (w := w) he rc
      exact ⟨v', by simp [Instr.field, run_under hu, hf, asAgg, h1], h2⟩
    · cases he
  · cases he
omit [Inhabited Prop] in
theorem bound_sound {x : Value} {x' : Value} {y n : Nat} {code : BoundsCode} {d : Nat} (he : bound (some x) d y = some n) (rx : VRel m h x x') (z : Nat) (hz : y ≤ z) :
    (Instr.sliceBound x' z code).run P w = .ok n w ∧ n ≤ y := by
  unfold bound at he
  split at he
  · rename_i hx; cases hx
  · rename_i k i hx
    cases hx
    obtain rfl := rx.of_int
    split at he
    · rename_i hb
      cases he
      refine ⟨?_, by omega⟩
      simp only [Instr.sliceBound, Sem.run_bind, asIntOf, Sem.run_pure, Result.andThen_ok]
      rw [if_pos ⟨hb.1, by omega⟩]
      rfl
    · cases he
  · cases he
def ORel (m : BM) (h : HG) (a b : Option Value) : Prop :=
  match a, b with
  | none, none => True
  | some x, some y => VRel m h x y
  | _, _ => False
omit [Inhabited Prop] in
theorem ORel.map {ρ ρ' : Operand → Value} {x : Option Operand} (hr : ∀ y, x = some y → VRel m h (ρ y) (ρ' y)) : ORel m h (x.map ρ) (x.map ρ') := by
  cases x with
  | none => trivial
  | some y => exact hr y rfl
omit [Inhabited Prop] in
theorem lo_sound {lo lo' : Option Value} {hh l : Nat} {code : BoundsCode} (he : bound lo 0 hh = some l) (r : ORel m h lo lo') :
    (match lo' with | some v => Instr.sliceBound v hh code | none => pure 0 : Sem Nat).run P w = .ok l w ∧ l ≤ hh := by
  cases lo with
  | none =>
    cases lo' with
    | none => simp [bound] at he; subst he; exact ⟨rfl, Nat.zero_le _⟩
    | some _ => exact r.elim
  | some x =>
    cases lo' with
    | none => exact r.elim
    | some y => exact bound_sound he r hh (Nat.le_refl _)
omit [Inhabited Prop] in
theorem bounds_run {isS : Bool} {len cap hh l y : Nat} {lo lo' hi hi' : Option Value} (hy : y ≤ cap) (hb : bound hi len y = some hh) (hl : bound lo 0 hh = some l) (rh : ORel m h hi hi') (rl : ORel m h lo lo') :
    (Instr.sliceBounds isS len cap lo' hi' none).run P w = .ok (l, hh, cap) w ∧ l ≤ hh := by
  have h2 := (lo_sound (P := P) (w := w) (code := .sliceB) hl rl)
  refine ⟨?_, h2.2⟩
  have h2 := h2.1
  cases hi with
  | none => cases hi' with
    | some _ => exact rh.elim
    | none =>
      simp [bound] at hb; subst hb
      cases lo' with
      | none => simp [Instr.sliceBounds] at h2 ⊢; exact h2
      | some b => simp at h2; simp [Instr.sliceBounds, h2]
  | some x => cases hi' with
    | none => exact rh.elim
    | some z =>
      have h1 := (bound_sound (P := P) (w := w) (code := if isS then .sliceAcap else .sliceAlen) hb rh cap hy).1
      cases lo' with
      | none => simp at h2; simp [Instr.sliceBounds, h1, h2]
      | some b => simp at h2; simp [Instr.sliceBounds, h1, h2]
omit [Inhabited Prop] in
theorem bounds_max {len cap hh l mm y : Nat} {lo lo' : Option Value} {hi hi' mx mx' : Value} (hy : y ≤ cap) (hm : bound (some mx) len y = some mm) (hb : bound (some hi) len mm = some hh) (hl : bound lo 0 hh = some l)
    (rm : VRel m h mx mx') (rh : VRel m h hi hi') (rl : ORel m h lo lo') :
    (Instr.sliceBounds true len cap lo' (some hi') (some mx')).run P w = .ok (l, hh, mm) w ∧ l ≤ hh ∧ hh ≤ mm ∧ mm ≤ y := by
  have h2 := (lo_sound (P := P) (w := w) (code := .slice3C) hl rl)
  have h1 := (bound_sound (P := P) (w := w) (code := .slice3Acap) hm rm cap hy)
  have h3 := (bound_sound (P := P) (w := w) (code := .slice3B) hb rh mm (Nat.le_refl _))
  refine ⟨?_, h2.2, h3.2, h1.2⟩
  have h2 := h2.1
  cases lo' with
  | none => simp at h2; simp [Instr.sliceBounds, h1.1, h3.1, h2]
  | some b => simp at h2; simp [Instr.sliceBounds, h1.1, h3.1, h2]
omit [Inhabited Prop] in
theorem bound_le {x : Option Value} {d y n : Nat} (hd : d ≤ y) (he : bound x d y = some n) : n ≤ y := by
  unfold bound at he
  split at he
  · cases he; exact hd
  · split at he
    · cases he; omega
    · cases he
  · cases he
omit [Inhabited Prop] in
theorem aSlice_sound {t : TypeId} {x x' v : Value} {lo hi mx lo' hi' mx' : Option Value} (he : aSlice P t x lo hi mx = some v) (rx : VRel m h x x') (rl : ORel m h lo lo') (rh : ORel m h hi hi') (rm : ORel m h mx mx') :
    ∃ v', (Instr.sliceAt t x' lo' hi' mx').run P w = .ok v' w ∧ VRel m h v v' := by
  unfold aSlice at he
  split at he
  · rename_i s hu
    obtain rfl := rx.of_string
    split at he
    · cases he
    · cases mx' with
      | some _ => exact rm.elim
      | none =>
        split at he
        · cases he
        · rename_i hv hb
          split at he
          · cases he
          · rename_i l hl
            cases he
            refine ⟨.string (s.extract l hv), ?_, by rw [Lib.extract_eq]; exact .flat rfl⟩
            have hrun := (bounds_run (P := P) (w := w) (isS := false) (Nat.le_refl _) hb hl rh rl).1
            simp [Instr.sliceAt, run_under hu, Instr.slice, hrun]
  · rename_i elem hu
    obtain rfl := rx.of_flat rfl
    split at he
    · rename_i n a1 b1 c1 hn ha hb hc
      split at he
      · cases he
      · rename_i hnn
        cases he
        have ha0 := bound_le (Nat.le_refl 0) ha
        have hb0 := bound_le (Nat.le_refl 0) hb
        have hc0 := bound_le (Nat.le_refl 0) hc
        obtain rfl : a1 = 0 := by omega
        obtain rfl : b1 = 0 := by omega
        obtain rfl : c1 = 0 := by omega
        refine ⟨.slice none 0 0, ?_, .flat rfl⟩
        cases mx with
        | none => cases mx' with
          | some _ => exact rm.elim
          | none =>
            have hrun := (bounds_run (P := P) (w := w) (isS := true) (Nat.le_refl 0) ha hb rh rl).1
            simp [Instr.sliceAt, run_under hu, Instr.slice, hrun, run_size hn]
        | some y => cases mx' with
          | none => exact rm.elim
          | some z => cases hi with
            | none => simp at hnn
            | some u => cases hi' with
              | none => exact rh.elim
              | some u' =>
                have hrun := (bounds_max (P := P) (w := w) (Nat.le_refl 0) hc ha hb rm rh rl).1
                simp [Instr.sliceAt, run_under hu, Instr.slice, hrun, run_size hn]
    · cases he
  · rename_i elem a len c hu
    obtain ⟨b, off, r, off', cap, rfl, rfl, hlc, hh⟩ := rx.of_slice0
    have hsp : len + spareOf c ≤ cap := by
      have h1 := hlc.1
      unfold spareOf
      split
      · rename_i h0; have := hlc.2 h0; omega
      · omega
    split at he
    · cases he
    · rename_i size hs
      split at he
      · cases mx' with
        | some _ => exact rm.elim
        | none =>
          split at he
          · cases he
          · rename_i h2 hb
            split at he
            · cases he
            · rename_i l hl
              cases he
              obtain ⟨hrun, hlh⟩ := (bounds_run (P := P) (w := w) (isS := true) hsp hb hl rh rl)
              have h2l := bound_le (Nat.le_add_right len (spareOf c)) hb
              have hcx : (if flagOf c = 1 ∧ wide c = size then c else if flagOf c = 0 then 3 * (wide c % 1000000 + 1000000 * (len + spareOf c - h2)) else 3 * size + 2) % 3 = 0 →
                  cap - l = (h2 - l) + (if flagOf c = 1 ∧ wide c = size then c else if flagOf c = 0 then 3 * (wide c % 1000000 + 1000000 * (len + spareOf c - h2)) else 3 * size + 2) / 3 / 1000000 := by
                intro hz
                split at hz
                · rename_i hf; unfold flagOf at hf; omega
                · rename_i hf1
                  rw [if_neg hf1]
                  split at hz
                  · rename_i hf
                    rw [if_pos hf]
                    unfold flagOf at hf
                    have h9 := hlc.2 hf
                    have hsv : spareOf c = c / 3 / 1000000 := by unfold spareOf; rw [hf]; rfl
                    rw [hsv] at h2l ⊢
                    unfold wide
                    omega
                  · omega
              refine ⟨.slice (some ⟨r, if cap = l then off' else off' + l * size, none⟩) (h2 - l) (cap - l), ?_, ?_⟩
              · simp only [Instr.sliceAt, Sem.run_bind, run_under hu, Result.andThen_ok, Instr.slice, hrun, run_size hs, Sem.run_pure]
                split <;> simp [addr_add]
              · refine .slice ⟨by omega, hcx⟩ ?_
                rcases hh with hh | ⟨δ, E, h3, h4, h5, h6⟩
                · exact .inl hh
                · refine .inr ⟨δ, E, h3, ?_, hcx, ?_⟩
                  · by_cases e : cap = l
                    · exact .inr (by omega)
                    · rw [if_neg e]
                      rcases h4 with h4 | h4
                      · exact .inl (by dsimp only; omega)
                      · exact .inr (by omega)
                  · intro hz
                    split at hz
                    · rename_i hf
                      rw [if_pos hf]
                      unfold flagOf wide at hf
                      have := h6 hf.1
                      rw [hf.2] at this ⊢
                      dsimp only
                      have hm : (cap - l) * size + l * size = cap * size := by rw [← Nat.add_mul]; congr 1; omega
                      omega
                    · split at hz
                      · rename_i hf
                        unfold flagOf at hf
                        omega
                      · omega
      · rename_i my
        cases mx' with
        | none => exact rm.elim
        | some mz =>
          split at he
          · rename_i mm hiv hmm
            cases hi' with
            | none => exact rh.elim
            | some hz' =>
              split at he
              · cases he
              · rename_i h2 hb
                split at he
                · cases he
                · rename_i l hl
                  cases he
                  obtain ⟨hrun, hlh, hhm, hml⟩ := (bounds_max (P := P) (w := w) hlc.1 hmm hb hl rm rh rl)
                  refine ⟨.slice (some ⟨r, if mm = l then off' else off' + l * size, none⟩) (h2 - l) (mm - l), ?_, ?_⟩
                  · simp only [Instr.sliceAt, Sem.run_bind, run_under hu, Result.andThen_ok, Instr.slice, hrun, run_size hs, Sem.run_pure]
                    split <;> simp [addr_add]
                  · have hcy : (if h2 = mm ∧ size < 1000000 then 3 * size else 3 * size + 2) % 3 = 0 → mm - l = (h2 - l) + (if h2 = mm ∧ size < 1000000 then 3 * size else 3 * size + 2) / 3 / 1000000 := by
                      intro hz
                      split at hz
                      · rename_i hf; rw [if_pos hf]; omega
                      · omega
                    refine .slice ⟨by omega, hcy⟩ ?_
                    rcases hh with hh | ⟨δ, E, h3, h4, h5, h6⟩
                    · exact .inl hh
                    · refine .inr ⟨δ, E, h3, ?_, hcy, ?_⟩
                      · by_cases e : mm = l
                        · exact .inr (by omega)
                        · rw [if_neg e]
                          rcases h4 with h4 | h4
                          · exact .inl (by dsimp only; omega)
                          · exact .inr (by omega)
                      · intro hz
                        split at hz <;> omega
          · cases he
  · cases he
omit [Inhabited Prop] in
theorem aLen_sound {t : TypeId} {x x' v : Value} {ts : Array TypeId} {ty : TypeId} {xs : Array Value} (he : aLen P t x = some v) (rx : VRel m h x x') (ht : ts[0]? = some t) (hx : xs[0]? = some x') :
    (Builtin.len_ ts ty xs).run P w = .ok v w ∧ AI.flat v = true := by
  unfold aLen at he
  split at he
  · rename_i s hu; obtain rfl := rx.of_string; cases he; exact ⟨by simp [Builtin.len_, ht, hx, run_under hu], rfl⟩
  · rename_i _ a n c hu; cases he
    cases a with
    | none =>
      obtain ⟨rfl, _, rfl⟩ := rx.of_nilslice
      exact ⟨by simp [Builtin.len_, ht, hx, run_under hu], rfl⟩
    | some a =>
      obtain ⟨_, _, _, _, _, _, rfl, _⟩ := rx.of_slice
      exact ⟨by simp [Builtin.len_, ht, hx, run_under hu], rfl⟩
  · rename_i _ n hu; cases he
    cases rx with
    | flat hf => cases hf
    | blind h1 => exact ⟨by simp [Builtin.len_, ht, hx, run_under hu], rfl⟩
    | blind0 => exact ⟨by simp [Builtin.len_, ht, hx, run_under hu], rfl⟩
  · rename_i _ n ty cs hu; cases he
    rcases VRel.of_lit (cs := cs.toList) rx with ⟨r, off, cap, rfl, _⟩ | ⟨rfl, _, rfl | ⟨a, cap, rfl⟩⟩ <;> exact ⟨by simp [Builtin.len_, ht, hx, run_under hu], rfl⟩
  · rename_i _ n ty cs hu; cases he
    rcases VRel.of_bag (cs := cs.toList) rx with ⟨r, off, cap, ds, rfl, _⟩ | ⟨rfl, _, rfl⟩ <;> exact ⟨by simp [Builtin.len_, ht, hx, run_under hu], rfl⟩
  · rename_i hu; obtain rfl := rx.of_flat rfl; cases he; exact ⟨by simp [Builtin.len_, ht, hx, run_under hu], rfl⟩
  · cases he
omit [Inhabited Prop] in
theorem aCap_sound {t : TypeId} {x x' v : Value} {ts : Array TypeId} {ty : TypeId} {xs : Array Value} (he : aCap P t x = some v) (rx : VRel m h x x') (ht : ts[0]? = some t) (hx : xs[0]? = some x') :
    (Builtin.cap_ ts ty xs).run P w = .ok v w ∧ AI.flat v = true := by
  unfold aCap at he
  split at he
  · rename_i hu; obtain ⟨_, _, rfl⟩ := rx.of_nilslice; cases he
    exact ⟨by simp [Builtin.cap_, ht, hx, run_under hu], rfl⟩
  · rename_i _ a n c hu
    split at he
    · rename_i h0
      cases he
      obtain ⟨_, _, _, _, cap, rfl, rfl, hc, _⟩ := rx.of_slice0
      have := hc.2 h0
      exact ⟨by simp [Builtin.cap_, ht, hx, run_under hu, this], rfl⟩
    · cases he
  · cases he
omit [Inhabited Prop] in
theorem foldMin_sound : ∀ {xs : List Value} {x v : Value} {xs' : List Value} {x' : Value}, foldMin x xs = some v → VRel m h x x' → VRelL m h xs xs' →
    ∃ v', (xs'.foldlM Builtin.min2 x' : Sem Value).run P w = .ok v' w ∧ VRel m h v v'
  | [], x, v, xs', x', he, rx, rs => by
    simp [foldMin] at he; subst he; rw [rs.of_nil]; exact ⟨x', by simp, rx⟩
  | y :: ys, x, v, xs', x', he, rx, rs => by
    obtain ⟨y', ys', rfl, h1, h2⟩ := rs.of_cons
    cases x <;> cases y <;> simp [foldMin] at he
    obtain rfl := rx.of_int
    obtain rfl := h1.of_int
    obtain ⟨v', h3, h4⟩ := foldMin_sound he (.flat rfl) h2
    refine ⟨v', ?_, h4⟩
    rw [List.foldlM_cons]
    simp only [Builtin.min2, Sem.run_bind, Sem.run_pure, Result.andThen_ok]
    exact h3
omit [Inhabited Prop] in
theorem foldMax_sound : ∀ {xs : List Value} {x v : Value} {xs' : List Value} {x' : Value}, foldMax x xs = some v → VRel m h x x' → VRelL m h xs xs' →
    ∃ v', (xs'.foldlM Builtin.max2 x' : Sem Value).run P w = .ok v' w ∧ VRel m h v v'
  | [], x, v, xs', x', he, rx, rs => by
    simp [foldMax] at he; subst he; rw [rs.of_nil]; exact ⟨x', by simp, rx⟩
  | y :: ys, x, v, xs', x', he, rx, rs => by
    obtain ⟨y', ys', rfl, h1, h2⟩ := rs.of_cons
    cases x <;> cases y <;> simp [foldMax] at he
    obtain rfl := rx.of_int
    obtain rfl := h1.of_int
    obtain ⟨v', h3, h4⟩ := foldMax_sound he (.flat rfl) h2
    refine ⟨v', ?_, h4⟩
    rw [List.foldlM_cons]
    simp only [Builtin.max2, Sem.run_bind, Sem.run_pure, Result.andThen_ok]
    exact h3
omit [Inhabited Prop] in
theorem VRelL.map {ρ ρ' : Operand → Value} : ∀ {xs : List Operand}, (∀ x ∈ xs, VRel m h (ρ x) (ρ' x)) → VRelL m h (xs.map ρ) (xs.map ρ')
  | [], _ => .nil
  | x :: xs, hr => .cons (hr x (.head _)) (VRelL.map fun y hy => hr y (.tail _ hy))
omit [Inhabited Prop] in
theorem aPureCall_sound {b : Builtin} {ts : Array TypeId} {ty : TypeId} {cs : Array Bool} {xs : List Value} {xs' : Array Value} {v : Value} (he : aPureCall P b ts.toList xs = some v) (rs : VRelL m h xs xs'.toList) :
    ∃ v', (builtin b ts ty cs xs').run P w = .ok (.value v') w ∧ VRel m h v v' := by
  unfold aPureCall at he
  split at he
  · rename_i t _ x _ ht
    obtain ⟨x', xr, hx, h1, h2⟩ := rs.of_cons
    have ht0 : ts[0]? = some t := by
      have : ts.toList[0]? = some t := by rw [ht]; rfl
      simpa using this
    have hx0 : xs'[0]? = some x' := by
      have : xs'.toList[0]? = some x' := by rw [hx]; rfl
      simpa using this
    obtain ⟨h3, h4⟩ := aLen_sound (P := P) (w := w) (ty := ty) he h1 ht0 hx0
    exact ⟨v, by simp [builtin, h3], .flat h4⟩
  · rename_i t _ x _ ht
    obtain ⟨x', xr, hx, h1, h2⟩ := rs.of_cons
    have ht0 : ts[0]? = some t := by
      have : ts.toList[0]? = some t := by rw [ht]; rfl
      simpa using this
    have hx0 : xs'[0]? = some x' := by
      have : xs'.toList[0]? = some x' := by rw [hx]; rfl
      simpa using this
    obtain ⟨h3, h4⟩ := aCap_sound (P := P) (w := w) (ty := ty) he h1 ht0 hx0
    exact ⟨v, by simp [builtin, h3], .flat h4⟩
  · obtain ⟨x', xr, hx, h1, h2⟩ := rs.of_cons
    obtain ⟨v', h3, h4⟩ := foldMin_sound (P := P) (w := w) he h1 h2
    refine ⟨v', ?_, h4⟩
    simp only [builtin, Sem.run_bind, Builtin.min_, hx, h3, Result.andThen_ok, Sem.run_pure]
  · obtain ⟨x', xr, hx, h1, h2⟩ := rs.of_cons
    obtain ⟨v', h3, h4⟩ := foldMax_sound (P := P) (w := w) he h1 h2
    refine ⟨v', ?_, h4⟩
    simp only [builtin, Sem.run_bind, Builtin.max_, hx, h3, Result.andThen_ok, Sem.run_pure]
  · cases he
omit [Inhabited Prop] in
theorem prel_map {ρ ρ' : Operand → Value} : ∀ {ps : List (Nat × Operand)}, (∀ p ∈ ps, VRel m h (ρ p.2) (ρ' p.2)) → PRel m h (ps.map fun p => (p.1, ρ p.2)) (ps.map fun p => (p.1, ρ' p.2))
  | [], _ => trivial
  | p :: ps, hr => ⟨rfl, hr p (.head _), prel_map fun q hq => hr q (.tail _ hq)⟩
def LaysN (P : Program) (m : BM) (h : HG) (w : World) (sz : Nat) (ob : Option Blk) (v : Value) (r : Result Next) : Prop :=
  match ob with
  | none => ∃ v', r = .ok (.value v') w ∧ VRel m h v v'
  | some o => ∃ v' obj E, r = .ok (.value v') (w.alloc obj) ∧ VRel (updM m sz (w.heap.size, 0, E)) (updH h sz o) v v' ∧
      ∀ m' h', Le m h m' h' → BRel m' h' (w.alloc obj) (w.heap.size, 0, E) o
omit [Inhabited Prop] in
theorem Lays.next {sz : Nat} {ob : Option Blk} {v : Value} {s : Sem Value} (hl : Lays P m h w sz ob v (s.run P w)) : LaysN P m h w sz ob v ((do pure (.value (← s)) : Sem Next).run P w) := by
  cases ob with
  | none => obtain ⟨v', h1, h2⟩ := hl; exact ⟨v', by simp [h1], h2⟩
  | some o => obtain ⟨v', obj, E, h1, h2⟩ := hl; exact ⟨v', obj, E, by simp [h1], h2⟩
omit [Inhabited Prop] in
theorem lays_none {sz : Nat} {v : Value} {r : Result Value} (hr : ∃ v', r = .ok v' w ∧ VRel m h v v') : Lays P m h w sz none v r := hr
omit [Inhabited Prop] in
theorem opP_sound {ρ ρ' : Operand → Value} {o : Oper} {sz : Nat} {v : Value} {ob : Option Blk} (he : opP P ρ sz o = some (v, ob)) (hr : ∀ x ∈ o.op.operands.toList, VRel m h (ρ x) (ρ' x)) :
    LaysN P m h w sz ob v ((execOp ρ' o).run P w) := by
  obtain ⟨dst, op, type, pos, after, guard⟩ := o
  unfold opP at he
  simp only at he hr
  split at he
  · cases he; exact ⟨_, rfl, hr _ (by simp [Op.operands])⟩
  · cases he; exact ⟨_, rfl, hr _ (by simp [Op.operands])⟩
  · rename_i c a b
    have hc := hr c (by simp [Op.operands])
    split at he
    · rename_i hb; rw [hb] at hc; cases he
      exact ⟨_, by simp [execOp, hc.of_bool, asBool], hr _ (by simp [Op.operands])⟩
    · rename_i hb; rw [hb] at hc; cases he
      exact ⟨_, by simp [execOp, hc.of_bool, asBool], hr _ (by simp [Op.operands])⟩
    · cases he
  · obtain ⟨z, hz, hvo⟩ := Option.map_eq_some_iff.1 he
    cases hvo
    exact (alloc_sound hz).next
  · split at he
    · rename_i hj
      cases he
      exact (box_sound hj (hr _ (by simp [Op.operands]))).next
    · cases he
  · rename_i t parts
    obtain ⟨z, hz, hvo⟩ := Option.map_eq_some_iff.1 he
    cases hvo
    refine Lays.next (s := Instr.build t (parts.map fun (i, x) => (i, ρ' x))) (lays_none (aBuild_sound hz ?_))
    have := prel_map (m := m) (h := h) (ρ := ρ) (ρ' := ρ') (ps := parts.toList) (fun p hp => hr p.2 (by simp [Op.operands]; exact ⟨p.1, by simpa using hp⟩))
    simpa using this
  · rename_i t len parts
    obtain ⟨⟨z1, z2⟩, hz, hvo⟩ := Option.map_eq_some_iff.1 he
    cases hvo
    have hp := prel_map (m := m) (h := h) (ρ := ρ) (ρ' := ρ') (ps := parts.toList) (fun p hp => hr p.2 (by simp [Op.operands]; exact ⟨p.1, by simpa using hp⟩))
    have := aBuildSlice_sound (w := w) (qs := parts.map fun p => (p.1, ρ' p.2)) hz (by simpa using hp)
    exact this.next
  · rename_i x
    have hx := hr x (by simp [Op.operands])
    split at he
    · rename_i a hb; rw [hb] at hx; cases he
      obtain ⟨b, off, r, off', rfl, hv, hh⟩ := hx.of_ptr
      exact ⟨_, by simp [execOp, hv], .ptr hh⟩
    · cases he
  · rename_i op t x y yt
    obtain ⟨z, hz, hvo⟩ := Option.map_eq_some_iff.1 he
    cases hvo
    obtain ⟨h1, h2⟩ := aBin_sound (w := w) (ox := x) (oy := y) hz (hr x (by simp [Op.operands])) (hr y (by simp [Op.operands]))
    refine ⟨v, ?_, .flat h2⟩
    simp only [execOp]
    rw [Sem.run_bind, h1]
    rfl
  · rename_i op t x
    obtain ⟨z, hz, hvo⟩ := Option.map_eq_some_iff.1 he
    cases hvo
    obtain ⟨h1, h2⟩ := aUn_sound (P := P) (w := w) hz (hr x (by simp [Op.operands]))
    exact Lays.next (s := Op.unary op (ρ' x)) (lays_none ⟨_, h1, .flat h2⟩)
  · rename_i src dst x
    obtain ⟨z, hz, hvo⟩ := Option.map_eq_some_iff.1 he
    cases hvo
    obtain ⟨h1, h2⟩ := aConv_sound (P := P) (w := w) hz (hr x (by simp [Op.operands]))
    exact Lays.next (s := convert src dst (ρ' x)) (lays_none ⟨_, h1, .flat h2⟩)
  · rename_i f first captured
    cases he
    refine ⟨_, rfl, ?_⟩
    refine .func (by simp) ?_ (by simp) ?_
    · intro i v v' h1 h2
      simp only [Array.getElem?_map, Option.map_eq_some_iff] at h1 h2
      obtain ⟨a, ha, rfl⟩ := h1
      obtain ⟨b, hb, rfl⟩ := h2
      rw [ha] at hb; cases hb
      exact hr a (by simp only [Op.operands, Array.toList_append, List.mem_append]; exact .inl (Array.mem_toList_iff.2 (Array.mem_of_getElem? ha)))
    · intro i v v' h1 h2
      simp only [Array.getElem?_map, Option.map_eq_some_iff] at h1 h2
      obtain ⟨a, ha, rfl⟩ := h1
      obtain ⟨b, hb, rfl⟩ := h2
      rw [ha] at hb; cases hb
      exact hr a (by simp only [Op.operands, Array.toList_append, List.mem_append]; exact .inr (Array.mem_toList_iff.2 (Array.mem_of_getElem? ha)))
  · cases he
    refine ⟨.map (some w.heap.size), .map #[] 0, 0, rfl, .map (.inr ⟨_, updM_self⟩), ?_⟩
    intro m' h' l
    exact ⟨#[], by show (w.heap.push _)[_]? = _; simp, rfl, fun i e f h1 _ => by simp at h1⟩
  · rename_i t l c
    obtain ⟨⟨z1, z2⟩, hz, hvo⟩ := Option.map_eq_some_iff.1 he
    cases hvo
    have := aMakeSlice_sound (w := w) hz (hr l (by simp [Op.operands])) (hr c (by simp [Op.operands]))
    exact this.next
  · rename_i t x lo hi mx
    obtain ⟨z, hz, hvo⟩ := Option.map_eq_some_iff.1 he
    cases hvo
    exact Lays.next (s := Instr.sliceAt t (ρ' x) (lo.map ρ') (hi.map ρ') (mx.map ρ')) (lays_none (aSlice_sound hz (hr x (by simp [Op.operands]))
      (ORel.map fun y hy => hr y (by simp [Op.operands, hy])) (ORel.map fun y hy => hr y (by simp [Op.operands, hy])) (ORel.map fun y hy => hr y (by simp [Op.operands, hy]))))
  · rename_i s x f
    obtain ⟨z, hz, hvo⟩ := Option.map_eq_some_iff.1 he
    cases hvo
    exact Lays.next (s := Instr.fieldAt s (ρ' x) f) (lays_none (aFieldAddr_sound hz (hr x (by simp [Op.operands]))))
  · rename_i s x f
    obtain ⟨z, hz, hvo⟩ := Option.map_eq_some_iff.1 he
    cases hvo
    exact Lays.next (s := Instr.field s (ρ' x) f) (lays_none (aField_sound hz (hr x (by simp [Op.operands]))))
  · rename_i t x ix
    obtain ⟨z, hz, hvo⟩ := Option.map_eq_some_iff.1 he
    cases hvo
    exact Lays.next (s := Instr.indexAt t (ρ' x) (ρ' ix)) (lays_none (aIndexAddr_sound hz (hr x (by simp [Op.operands])) (hr ix (by simp [Op.operands]))))
  · rename_i t x ix
    obtain ⟨z, hz, hvo⟩ := Option.map_eq_some_iff.1 he
    cases hvo
    exact Lays.next (s := Instr.index t (ρ' x) (ρ' ix)) (lays_none (aIndex_sound hz (hr x (by simp [Op.operands])) (hr ix (by simp [Op.operands]))))
  · rename_i t ix
    have hx := hr t (by simp [Op.operands])
    split at he
    · rename_i vs hb; rw [hb] at hx
      obtain ⟨z, hz, hvo⟩ := Option.map_eq_some_iff.1 he
      cases hvo
      obtain ⟨vs', hv, h1, h2⟩ := hx.of_tuple
      have hlt : ix < vs'.size := h1 ▸ (Array.getElem?_eq_some_iff.1 hz).1
      refine ⟨vs'[ix], ?_, h2 ix v vs'[ix] hz (Array.getElem?_eq_getElem hlt)⟩
      simp [execOp, hv, Instr.extract, Array.getElem?_eq_getElem hlt]
    · cases he
  · rename_i c
    split at he
    · rename_i b hcal
      obtain ⟨z, hz, hvo⟩ := Option.map_eq_some_iff.1 he
      cases hvo
      have hargs : VRelL m h (c.args.toList.map ρ) (c.args.map ρ').toList := by
        rw [Array.toList_map]
        exact VRelL.map fun x hx => hr x (by simp only [Op.operands, Call.operands, hcal, Array.toList_append, List.mem_append]; exact .inr hx)
      obtain ⟨v', h1, h2⟩ := aPureCall_sound (P := P) (w := w) (ty := type) (cs := c.args.map fun | .const _ => true | _ => false) hz hargs
      refine ⟨v', ?_, h2⟩
      simp only [execOp, resolve, hcal, Sem.run_bind, Sem.run_pure, Result.andThen_ok, invoke]
      exact h1
    · cases he
  · cases he
end
end Go.Proofs.Ytbhmodlpolgklaa.AI
namespace Go.Proofs.Ytbhmodlpolgklaa.AI
open Go
variable [Inhabited Prop]
section
variable {P : Program} {w : World} {m : BM} {h : HG}
omit [Inhabited Prop] in
theorem cell_of {r off : Nat} {c : Array Value} {ty : TypeId} {fr : Nat × Nat} (hc : w.heap[r]? = some (.cells c ty fr)) : w.cell? ⟨r, off, none⟩ = c[off]? := by
  simp [World.cell?, hc]
omit [Inhabited Prop] in
theorem frozen_of {r off : Nat} {c : Array Value} {ty : TypeId} {fr : Nat × Nat} (hc : w.heap[r]? = some (.cells c ty fr)) (hf : ¬ (fr.1 ≤ off ∧ off < fr.2)) : w.frozen? ⟨r, off, none⟩ = false := by
  obtain ⟨lo, hi⟩ := fr
  simp only [World.frozen?, hc]
  simp at hf ⊢
  omega
omit [Inhabited Prop] in
theorem run_load1 {r off : Nat} {c : Array Value} {ty : TypeId} {fr : Nat × Nat} {v : Value} {md : Mode} (hc : w.heap[r]? = some (.cells c ty fr)) (hv : c[off]? = some v) : (load ⟨r, off, none⟩ md).run P w = .ok v w := by
  simp [cell_of hc, hv]
omit [Inhabited Prop] in
theorem run_loadFrom {r : Nat} {c : Array Value} {ty : TypeId} {fr : Nat × Nat} (hc : w.heap[r]? = some (.cells c ty fr)) (off : Nat) : ∀ (n i : Nat) (acc : Array Value), off + i + n ≤ c.size →
    (loadCellsFrom ⟨r, off, none⟩ i n acc).run P w = .ok (acc ++ c.extract (off + i) (off + i + n)) w
  | 0, i, acc, hb => by simp [loadCellsFrom]; omega
  | n + 1, i, acc, hb => by
    have hv : c[off + i]? = some c[off + i] := Array.getElem?_eq_getElem (by omega)
    simp only [loadCellsFrom, addr_add, Sem.run_bind, run_load1 hc hv, Result.andThen_ok]
    rw [run_loadFrom hc off n (i + 1) _ (by omega)]
    congr 1
    apply Array.ext'
    simp only [Array.toList_append, Array.toList_push, Array.toList_extract, List.append_assoc, List.extract_eq_take_drop]
    congr 1
    have hl : off + i < c.toList.length := by simp; omega
    rw [show off + i + (n + 1) - (off + i) = n + 1 from by omega, show off + (i + 1) + n - (off + (i + 1)) = n from by omega]
    rw [List.drop_eq_getElem_cons hl, List.take_succ_cons]
    simp [Nat.add_assoc]
omit [Inhabited Prop] in
theorem run_loadCells {r off n : Nat} {c : Array Value} {ty : TypeId} {fr : Nat × Nat} (hc : w.heap[r]? = some (.cells c ty fr)) (hb : n = 0 ∨ off + n ≤ c.size) :
    (loadCells ⟨r, off, none⟩ n).run P w = .ok (c.extract off (off + n)) w := by
  unfold loadCells
  rcases hb with rfl | hb
  · simp [loadCellsFrom]; omega
  · rw [run_loadFrom hc off n 0 #[] (by omega)]
    simp
omit [Inhabited Prop] in
theorem ext_toList (c : Array Value) (a n : Nat) : (c.extract a (a + n)).toList = (c.toList.drop a).take n := by simp
omit [Inhabited Prop] in
theorem ext_toArray (c : Array Value) (a n : Nat) : ((c.toList.drop a).take n).toArray = c.extract a (a + n) := by
  apply Array.ext'; simp
omit [Inhabited Prop] in
theorem Sim.row {s : Sim m h w} {b : Nat} {ty : TypeId} {cs : List Value} {ro : Bool} (hb : h b = some (.cells ty cs ro)) {x : Nat × Nat × Nat} (hx : m b = some x) :
    ∃ c fr, w.heap[x.1]? = some (.cells c ty fr) ∧ x.2.1 + cs.length ≤ x.2.2 ∧ x.2.2 ≤ c.size ∧
      (∀ (i : Nat) (v v' : Value), cs[i]? = some v → c[x.2.1 + i]? = some v' → VRel m h v v') ∧ ((ro = false → ∀ j, j ≤ c.size → ¬ (fr.1 ≤ j ∧ j < fr.2)) ∧ (ro = true → keysBox cs = true → x.2.1 = 0)) := by
  obtain ⟨o, ho, hr⟩ := s.dom b x hx
  rw [hb] at ho; cases ho
  exact hr
omit [Inhabited Prop] in
theorem range_rel {cs : List Value} {c : Array Value} {δ off n : Nat} {r : List Value} (hr : getR cs off n = some r) (hl : δ + cs.length ≤ c.size)
    (hc : ∀ (i : Nat) (v v' : Value), cs[i]? = some v → c[δ + i]? = some v' → VRel m h v v') : VRelL m h r ((c.toList.drop (δ + off)).take n) ∧ (n = 0 ∨ off + n ≤ cs.length) ∧ r.length = n := by
  unfold getR at hr
  split at hr
  · rename_i hn
    cases hr
    have hb : n ≤ cs.length - off := by simp at hn; omega
    by_cases h0 : n = 0
    · subst h0
      exact ⟨⟨by simp, fun i v v' h1 h2 => by simp at h1⟩, .inl rfl, hn⟩
    · have hb2 : off + n ≤ cs.length := by omega
      refine ⟨⟨by simp; omega, ?_⟩, .inr hb2, hn⟩
      intro i v v' h1 h2
      rw [List.getElem?_take] at h1 h2
      split at h1
      · rename_i hi
        rw [if_pos hi] at h2
        rw [List.getElem?_drop] at h1 h2
        refine hc (off + i) v v' h1 ?_
        rw [← h2]; simp [Nat.add_assoc]
      · cases h1
  · cases hr
omit [Inhabited Prop] in
theorem aLoad_sound (s : Sim m h w) {t : TypeId} {x x' v : Value} (he : aLoad P h t x = some v) (rx : VRel m h x x') :
    ∃ v', (Instr.loadAt t x').run P w = .ok v' w ∧ VRel m h v v' := by
  unfold aLoad at he
  split at he
  · rename_i a
    obtain ⟨b, off, r, off', rfl, rfl, hh⟩ := rx.of_ptr
    split at he
    · rename_i ty cs ro hb
      rcases hh with hh | ⟨δ, E, hm, rfl⟩
      · dsimp only at hb; rw [hb] at hh; cases hh
      · obtain ⟨c, fr, h1, h2, h3, h4, _⟩ := Sim.row (s := s) hb hm
        dsimp only at h1 h2 h3 h4
        split at he
        · rename_i n ha hn
          obtain ⟨rr, hr, rfl⟩ := Option.map_eq_some_iff.1 he
          dsimp only at hr
          obtain ⟨h5, h6, _⟩ := range_rel hr (by omega) h4
          refine ⟨.agg (c.extract (δ + off) (δ + off + n)), ?_, by have := VRel.agg' h5; rwa [ext_toArray] at this⟩
          simp only [Instr.loadAt, Instr.sureAddr, Sem.run_bind, Sem.run_pure, Result.andThen_ok, loadVar, run_agg ha, if_true, run_size hn]
          rw [run_loadCells h1 (by rcases h6 with h6 | h6; exact .inl h6; exact .inr (by omega))]
          rfl
        · rename_i n ha hn
          dsimp only at he
          have hlt : off < cs.length := (List.getElem?_eq_some_iff.1 he).1
          have hv : c[δ + off]? = some c[δ + off] := Array.getElem?_eq_getElem (by omega)
          refine ⟨_, ?_, h4 off v _ he hv⟩
          simp only [Instr.loadAt, Instr.sureAddr, Sem.run_bind, Sem.run_pure, Result.andThen_ok, loadVar, run_agg ha, Bool.false_eq_true, if_false]
          exact run_load1 h1 hv
        · cases he
    · cases he
  · cases he
omit [Inhabited Prop] in
theorem keyEq_same (d : TypeDesc) (a b : Value) : keyEq d a b = Instr.sameNow d a b ∨ keyEq d a b = none := by
  unfold keyEq
  split
  · left; rfl
  · left; simp [Instr.sameNow, strEq_beq]
  · left; rfl
  · right; rfl
omit [Inhabited Prop] in
theorem run_checkKey {t : TypeId} {d : TypeDesc} (hu : P.underlying t = some d) (hd : (∃ k, d = .int k) ∨ d = .string ∨ d = .bool) (n : Nat) (e : Bool) (k : Value) (w' : World) :
    (Instr.checkKey e (n + 1) t k).run P w' = .ok () w' := by
  rw [Instr.checkKey]
  simp only [Sem.run_bind, run_under hu, Result.andThen_ok]
  rcases hd with ⟨kk, rfl⟩ | rfl | rfl <;> rfl
omit [Inhabited Prop] in
theorem keyKind_under {t : TypeId} {d : TypeDesc} (hk : keyKind P t = some d) : P.underlying t = some d ∧ (∀ e k w', (Instr.checkKey e 10000 t k).run P w' = .ok () w') := by
  unfold keyKind at hk
  split at hk
  · rename_i k hu; cases hk
    exact ⟨hu, run_checkKey hu (by simp) 9999⟩
  · rename_i hu; cases hk
    exact ⟨hu, run_checkKey hu (by simp) 9999⟩
  · rename_i hu; cases hk
    exact ⟨hu, run_checkKey hu (by simp) 9999⟩
  · cases hk
omit [Inhabited Prop] in
theorem ERel.list {es : List (Value × Value × Nat)} {fs : Array MapEntry} (r : ERel m h es fs) : es.length = fs.toList.length ∧
    ∀ (i : Nat) (e : Value × Value × Nat) (f : MapEntry), es[i]? = some e → fs.toList[i]? = some f → AI.flat e.1 = true ∧ f.key = e.1 ∧ VRel m h e.2.1 f.val ∧ f.born = e.2.2 :=
  ⟨by simpa using r.1, fun i e f h1 h2 => r.2 i e f h1 (by simpa using h2)⟩
omit [Inhabited Prop] in
theorem findE_now {d : TypeDesc} {k : Value} : ∀ {es : List (Value × Value × Nat)} {fs : List MapEntry} {i : Nat} {r : Option (Nat × Value)}, findE d k es i = some r → es.length = fs.length →
    (∀ (i : Nat) (e : Value × Value × Nat) (f : MapEntry), es[i]? = some e → fs[i]? = some f → AI.flat e.1 = true ∧ f.key = e.1 ∧ VRel m h e.2.1 f.val ∧ f.born = e.2.2) →
    match r with
    | none => Instr.findNow d k fs i = some none
    | some (j, v) => ∃ v', Instr.findNow d k fs i = some (some (j, v')) ∧ VRel m h v v' ∧ i ≤ j ∧ j < i + es.length ∧ ∃ e, es[j - i]? = some e ∧ v = e.2.1 ∧ keyEq d k e.1 = some true
  | [], fs, i, r, he, hl, hr => by
    simp [findE] at he; subst he
    cases fs with
    | nil => rfl
    | cons f fs => simp at hl
  | e :: es, [], i, r, he, hl, hr => by simp at hl
  | e :: es, f :: fs, i, r, he, hl, hr => by
    obtain ⟨h1, h2, h3, h4⟩ := hr 0 e f rfl rfl
    simp only [findE] at he
    split at he
    · rename_i hk
      cases he
      refine ⟨f.val, ?_, h3, Nat.le_refl _, by simp, e, by simp, rfl, hk⟩
      rcases keyEq_same d k e.1 with hs | hs
      · simp only [Instr.findNow, h2, ← hs, hk]
      · rw [hk] at hs; cases hs
    · rename_i hk
      have ih := findE_now (i := i + 1) he (by simpa using hl) (fun i e f a b => hr (i + 1) e f (by simpa using a) (by simpa using b))
      have hs : Instr.sameNow d k f.key = some false := by
        rcases keyEq_same d k e.1 with hs | hs
        · rw [h2, ← hs, hk]
        · rw [hk] at hs; cases hs
      cases r with
      | none => simp only [Instr.findNow, hs]; exact ih
      | some p =>
        obtain ⟨j, v⟩ := p
        obtain ⟨v', g1, g2, g3, g4, x, g5, g6⟩ := ih
        refine ⟨v', by simp only [Instr.findNow, hs]; exact g1, g2, by omega, by simp; omega, x, ?_, g6⟩
        rw [show j - i = (j - (i + 1)) + 1 from by omega]
        simpa using g5
    · cases he
omit [Inhabited Prop] in
theorem Sim.maps (s : Sim m h w) {b : Nat} {es : List (Value × Value × Nat)} {cl : Nat} {ro : Bool} (hb : h b = some (.map es cl ro)) {x : Nat × Nat × Nat} (hx : m b = some x) :
    ∃ fs, w.heap[x.1]? = some (.map fs cl) ∧ ERel m h es fs := by
  obtain ⟨o, ho, hr⟩ := s.dom b x hx
  rw [hb] at ho; cases ho
  exact hr
omit [Inhabited Prop] in
theorem run_getMap {r : Nat} {fs : Array MapEntry} {cl : Nat} (hf : w.heap[r]? = some (.map fs cl)) : (getObj r).run P w = .ok (.map fs cl) w := by
  simp [getObj, Sem.run, hf]
omit [Inhabited Prop] in
theorem run_findKey {key : TypeId} {d : TypeDesc} {k : Value} {es : List MapEntry} {r : Option (Nat × Value)} (hu : P.underlying key = some d) (hn : Instr.findNow d k es 0 = some r) : (Instr.findKey key k es).run P w = .ok r w := by
  simp [Instr.findKey, run_under hu, hn]
omit [Inhabited Prop] in
theorem run_zeroP {t : TypeId} {z : Value} (hz : (P.info? t).bind (·.zero) = some z) : (zeroValue t).run P w = .ok z w := by
  cases hi : P.info? t with
  | none => simp [hi] at hz
  | some i => simp [hi] at hz; simp [zeroValue, run_info hi, hz]
def MapAt (w : World) (x : Value) (fs : Array MapEntry) : Prop := (x = .map none ∧ fs = #[]) ∨ ∃ r cl, x = .map (some r) ∧ w.heap[r]? = some (.map fs cl)
omit [Inhabited Prop] in
theorem lookup_hit {t key elem : TypeId} {x k : Value} {ok : Bool} {fs : Array MapEntry} {j : Nat} {v : Value} (hu : P.underlying t = some (.map key elem)) (hr : MapAt w x fs)
    (hck : ∀ e k w', (Instr.checkKey e 10000 key k).run P w' = .ok () w') (hf : (Instr.findKey key k fs.toList).run P w = .ok (some (j, v)) w) :
    (Instr.lookup t x k ok).run P w = .ok (if ok then .tuple #[v, .bool true] else v) w := by
  rcases hr with ⟨rfl, rfl⟩ | ⟨r, cl, rfl, hr⟩
  · simp only [Instr.lookup, Sem.run_bind, run_under hu, Result.andThen_ok, Sem.run_pure, hck, hf]
  · simp only [Instr.lookup, Sem.run_bind, run_under hu, Result.andThen_ok, Sem.run_pure, hck, hf, run_getMap hr]
omit [Inhabited Prop] in
theorem lookup_miss {t key elem : TypeId} {x k z : Value} {ok : Bool} {fs : Array MapEntry} (hu : P.underlying t = some (.map key elem)) (hr : MapAt w x fs)
    (hck : ∀ e k w', (Instr.checkKey e 10000 key k).run P w' = .ok () w') (hf : (Instr.findKey key k fs.toList).run P w = .ok none w) (hz : (zeroValue elem).run P w = .ok z w) :
    (Instr.lookup t x k ok).run P w = .ok (if ok then .tuple #[z, .bool false] else z) w := by
  rcases hr with ⟨rfl, rfl⟩ | ⟨r, cl, rfl, hr⟩
  · simp only [Instr.lookup, Sem.run_bind, run_under hu, Result.andThen_ok, Sem.run_pure, hck, hf, hz]
  · simp only [Instr.lookup, Sem.run_bind, run_under hu, Result.andThen_ok, Sem.run_pure, hck, hf, run_getMap hr, hz]
omit [Inhabited Prop] in
theorem aLookup_sound (s : Sim m h w) {t : TypeId} {x x' k k' v : Value} {ok : Bool} (he : aLookup P h t x k ok = some v) (rx : VRel m h x x') (rk : VRel m h k k') :
    ∃ v', (Instr.lookup t x' k' ok).run P w = .ok v' w ∧ VRel m h v v' := by
  unfold aLookup at he
  split at he
  · rename_i key elem hu
    split at he
    · rename_i d z hk hz
      split at he
      · rename_i hp
        simp only [Bool.and_eq_true] at hp
        obtain rfl := rk.of_flat hp.2
        obtain ⟨hku, hck⟩ := keyKind_under hk
        have pair : ∀ (a b : Value) (c : Bool), VRel m h a b → VRel m h (if ok then .tuple #[a, .bool c] else a) (if ok then .tuple #[b, .bool c] else b) := by
          intro a b c r
          cases ok
          · exact r
          · refine .tuple rfl fun i v v' h1 h2 => ?_
            cases i with
            | zero => simp at h1 h2; subst h1; subst h2; exact r
            | succ i => cases i with
              | zero => simp at h1 h2; subst h1; subst h2; exact .flat rfl
              | succ i => simp at h1
        split at he
        · cases he
        · rename_i es hes
          have hread : ∃ fs : Array MapEntry, MapAt w x' fs ∧ ERel m h es fs := by
            split at hes
            · cases hes
              obtain rfl := rx.of_flat rfl
              exact ⟨#[], .inl ⟨rfl, rfl⟩, rfl, fun i e f h1 _ => by simp at h1⟩
            · rename_i b
              obtain ⟨r, rfl, hh⟩ := rx.of_map
              split at hes
              · rename_i es' cl ro hb
                cases hes
                rcases hh with hh | ⟨y, hm⟩
                · rw [hb] at hh; cases hh
                · obtain ⟨fs, h1, h2⟩ := s.maps hb hm
                  exact ⟨fs, .inr ⟨r, cl, rfl, h1⟩, h2⟩
              · cases hes
            · cases hes
          obtain ⟨fs, hfs, hrel⟩ := hread
          have hlist := hrel.list
          split at he
          · cases he
          · rename_i j u hfd
            cases he
            obtain ⟨v', g1, g2, _⟩ := findE_now hfd hlist.1 hlist.2
            refine ⟨_, ?_, pair _ _ true g2⟩
            exact lookup_hit hu hfs hck (run_findKey hku g1)
          · rename_i hfd
            cases he
            have g1 := findE_now hfd hlist.1 hlist.2
            refine ⟨_, ?_, pair _ _ false (VRel.plain hp.1)⟩
            exact lookup_miss hu hfs hck (run_findKey hku g1) (run_zeroP hz)
      · cases he
    · cases he
  · cases he
omit [Inhabited Prop] in
theorem bytesOf_nums : ∀ {cs : List Value} {bs : List UInt8}, bytesOf cs = some bs → ∃ xs : List Int, cs = xs.map (Value.int .u8) ∧ bs = xs.map fun n => UInt8.ofNat n.toNat
  | [], bs, he => by simp [bytesOf] at he; subst he; exact ⟨[], rfl, rfl⟩
  | c :: cs, bs, he => by
    unfold bytesOf at he
    split at he
    · rename_i hc; cases hc
    · rename_i n r hc
      cases hc
      obtain ⟨bs', h1, rfl⟩ := Option.map_eq_some_iff.1 he
      obtain ⟨xs, rfl, rfl⟩ := bytesOf_nums h1
      exact ⟨n :: xs, rfl, rfl⟩
    · cases he
omit [Inhabited Prop] in
theorem aBytesToString_sound (s : Sim m h w) {src dst : TypeId} {x x' v : Value} (he : aBytesToString P h src dst x = some v) (rx : VRel m h x x') :
    (convert src dst x').run P w = .ok v w ∧ AI.flat v = true := by
  unfold aBytesToString at he
  split at he
  · rename_i e hs hd
    obtain rfl := rx.of_flat rfl
    split at he
    · rename_i hu; cases he
      exact ⟨run_convert_bytes_nil w src e hs hu 0 0 dst hd, rfl⟩
    · cases he
  · rename_i e a len c hs hd
    obtain ⟨b, off, r, off', cap, rfl, rfl, hlc, hh⟩ := rx.of_slice
    split at he
    · rename_i ty cs ro hu hb
      split at he
      · rename_i rr hr
        obtain ⟨bs, h1, rfl⟩ := Option.map_eq_some_iff.1 he
        obtain ⟨xs, rfl, rfl⟩ := bytesOf_nums h1
        rcases hh with hh | ⟨δ, E, hm, h2, h3⟩
        · dsimp only at hb; rw [hb] at hh; cases hh
        · obtain ⟨cc, fr, g1, g2, g3, g4, _⟩ := Sim.row (s := s) hb hm
          dsimp only at g1 g2 g3 g4 hr
          obtain ⟨h5, h6, h7⟩ := range_rel hr (by omega) g4
          have hf : (xs.map (Value.int .u8)).all AI.flat = true := by simp [AI.flat]
          have h8 := h5.of_flats hf
          refine ⟨?_, rfl⟩
          have := run_convert_bytes_arg (P := P) w src e hs hu r off' len cap xs (by simpa using h7) (fun i hi => ?_) dst hd
          · exact this
          · rcases h2 with rfl | h2
            · rw [cell_of g1]
              have h9 : ((cc.toList.drop (δ + off)).take len)[i]? = some (.int .u8 (xs.getD i 0)) := by
                rw [h8]
                have hx : i < xs.length := by simp at h7; omega
                simp [List.getElem?_map, List.getElem?_eq_getElem hx, List.getD_eq_getElem?_getD]
              rw [List.getElem?_take, if_pos hi, List.getElem?_drop] at h9
              simpa using h9
            · omega
      · cases he
    · cases he
  · cases he
omit [Inhabited Prop] in
theorem aUnsafe_sound (s : Sim m h w) {src dst : TypeId} {x x' v : Value} (he : aUnsafe P h src dst x = some v) (rx : VRel m h x x') :
    ∃ v', (convert src dst x').run P w = .ok v' w ∧ VRel m h v v' := by
  unfold aUnsafe at he
  split at he
  · rename_i t hs hd
    obtain rfl := rx.of_flat rfl
    cases he
    exact ⟨_, by simp [convert, run_under hs, run_under hd, Conv.unsafePointer], .flat rfl⟩
  · rename_i t a hs hd
    obtain ⟨b, off, r, off', rfl, rfl, hh⟩ := rx.of_ptr
    split at he
    · rename_i ty cs ro n hb hn
      split at he
      · cases he
      · rename_i hc
        cases he
        rcases hh with hh | ⟨δ, E, hm, rfl⟩
        · dsimp only at hb; rw [hb] at hh; cases hh
        · obtain ⟨cc, fr, g1, g2, g3, g4, _⟩ := Sim.row (s := s) hb hm
          dsimp only at g1 g2 g3 g4 hc
          refine ⟨_, ?_, .ptr (.inr ⟨δ, E, hm, rfl⟩)⟩
          have hsh : w.shape? r = some (ty, cc.size) := by simp [World.shape?, g1]
          have hnc : ¬ cc.size ≤ δ + off := by omega
          have hn0 : n ≠ 0 := by omega
          simp [convert, run_under hs, run_under hd, Conv.unsafePointer, Conv.seenAt, viewAt, hsh, cellsIn, run_size hn, hnc, hn0]
    · cases he
  · rename_i t hs hd
    obtain rfl := rx.of_flat rfl
    cases he
    exact ⟨_, by simp [convert, run_under hs, run_under hd, Conv.unsafePointer], .flat rfl⟩
  · cases he
omit [Inhabited Prop] in
theorem aLenMap_sound (s : Sim m h w) {t : TypeId} {x x' v : Value} {ts : Array TypeId} {ty : TypeId} {xs : Array Value} (he : aLenMap P h t x = some v) (rx : VRel m h x x') (ht : ts[0]? = some t) (hx : xs[0]? = some x') :
    (Builtin.len_ ts ty xs).run P w = .ok v w ∧ AI.flat v = true := by
  unfold aLenMap at he
  split at he
  · rename_i b hu
    obtain ⟨r, rfl, hh⟩ := rx.of_map
    split at he
    · rename_i es cl ro hb
      cases he
      rcases hh with hh | ⟨y, hm⟩
      · rw [hb] at hh; cases hh
      · obtain ⟨fs, h1, h2⟩ := s.maps hb hm
        exact ⟨by simp [Builtin.len_, ht, hx, run_under hu, run_getMap h1, h2.1], rfl⟩
    · cases he
  · cases he
omit [Inhabited Prop] in
theorem opR_sound (s : Sim m h w) {ρ ρ' : Operand → Value} {o : Oper} {v : Value} (he : opR P ρ h o = some v) (hr : ∀ x ∈ o.op.operands.toList, VRel m h (ρ x) (ρ' x)) :
    ∃ v', (execOp ρ' o).run P w = .ok (.value v') w ∧ VRel m h v v' := by
  obtain ⟨dst, op, type, pos, after, guard⟩ := o
  unfold opR at he
  simp only at he hr
  split at he
  · obtain ⟨v', h1, h2⟩ := aLoad_sound (P := P) s he (hr _ (by simp [Op.operands]))
    exact ⟨v', by simp [execOp, h1], h2⟩
  · rename_i t x k ok
    obtain ⟨v', h1, h2⟩ := aLookup_sound (P := P) s he (hr x (by simp [Op.operands])) (hr k (by simp [Op.operands]))
    exact ⟨v', by simp [execOp, h1], h2⟩
  · rename_i src dst x
    split at he
    · rename_i u hu
      cases he
      obtain ⟨h1, h2⟩ := aBytesToString_sound (P := P) s hu (hr x (by simp [Op.operands]))
      exact ⟨v, by simp [execOp, h1], .flat h2⟩
    · obtain ⟨v', h1, h2⟩ := aUnsafe_sound (P := P) s he (hr x (by simp [Op.operands]))
      exact ⟨v', by simp [execOp, h1], h2⟩
  · rename_i c
    split at he
    · rename_i t tr x xr hcal hts hxs
      have hx : VRel m h (ρ x) (ρ' x) := hr x (by
        simp only [Op.operands, Call.operands, hcal, Array.toList_append, List.mem_append]
        exact .inr (by rw [hxs]; exact .head _))
      have ht0 : c.argTypes[0]? = some t := by
        have : c.argTypes.toList[0]? = some t := by rw [hts]; rfl
        simpa using this
      have hx0 : (c.args.map ρ')[0]? = some (ρ' x) := by
        have : c.args.toList[0]? = some x := by rw [hxs]; rfl
        have : c.args[0]? = some x := by simpa using this
        simp [this]
      obtain ⟨h1, h2⟩ := aLenMap_sound (P := P) (ty := type) s he hx ht0 hx0
      refine ⟨v, ?_, .flat h2⟩
      simp only [execOp, resolve, hcal, Sem.run_bind, Sem.run_pure, Result.andThen_ok, invoke, builtin, h1]
    · cases he
  · cases he
end
end Go.Proofs.Ytbhmodlpolgklaa.AI
namespace Go.Proofs.Ytbhmodlpolgklaa.AI
open Go
variable [Inhabited Prop]
def wput (w : World) (r : Nat) (o : Obj) : World := { w with heap := w.heap.setIfInBounds r o }
omit [Inhabited Prop] in
theorem wput_at {w : World} {r : Nat} {o o' : Obj} (h : w.heap[r]? = some o') : (wput w r o).heap[r]? = some o := by
  have hr : r < w.heap.size := (Array.getElem?_eq_some_iff.1 h).1
  show (w.heap.setIfInBounds r o)[r]? = _
  simp [hr]
omit [Inhabited Prop] in
theorem wput_ne {w : World} {r k : Nat} {o : Obj} (h : k ≠ r) : (wput w r o).heap[k]? = w.heap[k]? := by
  show (w.heap.setIfInBounds r o)[k]? = _
  rw [Array.getElem?_setIfInBounds_ne (Ne.symm h)]
omit [Inhabited Prop] in
theorem wput_size {w : World} {r : Nat} {o : Obj} : (wput w r o).heap.size = w.heap.size := by
  show (w.heap.setIfInBounds r o).size = _
  simp
omit [Inhabited Prop] in
theorem wput_same {w : World} {r : Nat} {o : Obj} (h : w.heap[r]? = some o) : wput w r o = w := by
  have : w.heap.setIfInBounds r o = w.heap := by
    apply Array.ext'
    apply List.ext_getElem?
    intro i
    simp only [Array.toList_setIfInBounds]
    by_cases e : i = r
    · subst e
      have hr : i < w.heap.size := (Array.getElem?_eq_some_iff.1 h).1
      rw [List.getElem?_set_self (by simpa using hr)]
      simpa using h.symm
    · rw [List.getElem?_set_ne (Ne.symm e)]
  unfold wput
  rw [this]
omit [Inhabited Prop] in
theorem wput_wput {w : World} {r : Nat} {o o' : Obj} : wput (wput w r o) r o' = wput w r o' := by
  unfold wput
  simp
omit [Inhabited Prop] in
theorem setCell_wput {w : World} {r off : Nat} {c : Array Value} {ty : TypeId} {fr : Nat × Nat} {v : Value} (h : w.heap[r]? = some (.cells c ty fr)) :
    w.setCell ⟨r, off, none⟩ v = wput w r (.cells (c.setIfInBounds off v) ty fr) := by
  unfold World.setCell wput
  congr 1
  apply Array.ext'
  apply List.ext_getElem?
  intro i
  simp only [Array.toList_modify, Array.toList_setIfInBounds, List.getElem?_modify]
  have hr : r < w.heap.size := (Array.getElem?_eq_some_iff.1 h).1
  by_cases e : r = i
  · subst e
    rw [List.getElem?_set_self (by simpa using hr)]
    have h' : w.heap.toList[r]? = some (.cells c ty fr) := by simpa using h
    simp [h']
  · rw [List.getElem?_set_ne e]
    simp [e]
section
variable {P : Program} {w : World} {m : BM} {h : HG}
omit [Inhabited Prop] in
theorem run_store1 {r off : Nat} {c : Array Value} {ty : TypeId} {fr : Nat × Nat} {v : Value} {md : Mode} (hc : w.heap[r]? = some (.cells c ty fr)) (ho : off < c.size) (hf : ¬ (fr.1 ≤ off ∧ off < fr.2)) (h1 : v.oneCell' = true) :
    (store ⟨r, off, none⟩ v md).run P w = .ok () (wput w r (.cells (c.setIfInBounds off v) ty fr)) := by
  rw [run_store P w _ v md h1, cell_of hc, Array.getElem?_eq_getElem ho]
  simp only [frozen_of hc hf, Bool.false_eq_true, if_false]
  rw [setCell_wput hc]
omit [Inhabited Prop] in
theorem run_storeCells {r off : Nat} {ty : TypeId} {fr : Nat × Nat} : ∀ (vs : List Value) (i : Nat) (c : Array Value) (w : World), w.heap[r]? = some (.cells c ty fr) → (∀ j, j < c.size → ¬ (fr.1 ≤ j ∧ j < fr.2)) →
    off + i + vs.length ≤ c.size → (∀ v ∈ vs, v.oneCell' = true) → (storeCells ⟨r, off, none⟩ vs i).run P w = .ok () (wput w r (.cells (putL c.toList (off + i) vs).toArray ty fr))
  | [], i, c, w, hc, hf, hb, h1 => by
    simp only [storeCells, Sem.run_pure, putL_nil]
    rw [show c.toList.toArray = c from by simp, wput_same hc]
  | v :: vs, i, c, w, hc, hf, hb, h1 => by
    have hlen : (v :: vs).length = vs.length + 1 := rfl
    simp only [storeCells, addr_add, Sem.run_bind]
    rw [run_store1 hc (by omega) (hf _ (by omega)) (h1 v (.head _)), Result.andThen_ok]
    rw [run_storeCells vs (i + 1) (c.setIfInBounds (off + i) v) _ (wput_at hc) (by simpa using hf) (by simp; omega) (fun u hu => h1 u (.tail _ hu)), wput_wput, putL_cons]
    simp [Nat.add_assoc]
omit [Inhabited Prop] in
theorem updH_self {b : Nat} {o : Blk} : updH h b o b = some o := by simp [updH]
omit [Inhabited Prop] in
theorem updH_ne {b b' : Nat} {o : Blk} (e : b' ≠ b) : updH h b o b' = h b' := by simp [updH, e]
theorem put_go (s : Sim m h w) {b : Nat} {x : Nat × Nat × Nat} {o o' : Blk} {obj : Obj} (hb : h b = some o) (hm : m b = some x) (hr : rw? h b = true) (hr' : rw? (updH h b o') b = true)
    (hw : BRel m (updH h b o') (wput w x.1 obj) x o') : Go1 m h w m (updH h b o') (wput w x.1 obj) := by
  have hl : Le m h m (updH h b o') := by
    refine ⟨fun c hc => ?_, fun c y hy => .inr hy, fun _ _ _ _ h => h⟩
    by_cases e : c = b
    · subst e; unfold rw? at hr; rw [hc] at hr; simp at hr
    · rw [updH_ne e]; exact hc
  refine Go0.go ⟨hl, ⟨?_, ?_⟩, by rw [wput_size]; exact Nat.le_refl _, fun _ _ hx => .inl hx, ?_, fun _ _ _ hm => hm, fun c oc hc hcm => by
    have e : c ≠ b := by intro e; subst e; rw [hm] at hcm; cases hcm
    rw [updH_ne e]; exact hc, ?_, ?_, rfl, ⟨rfl, fun _ => Nat.le_refl _⟩, rfl⟩ s rfl
  · intro c y hy
    by_cases e : c = b
    · subst e; rw [hm] at hy; cases hy
      exact ⟨o', updH_self, hw⟩
    · obtain ⟨oc, hoc, hrc⟩ := s.dom c y hy
      refine ⟨oc, by rw [updH_ne e]; exact hoc, ?_⟩
      by_cases hd : oc = .dead
      · subst hd; trivial
      · refine hrc.mono hl (wput_ne ?_)
        intro exx
        refine e (s.inj b c x y hm hy hr ?_ exx.symm).symm
        unfold live?; rw [hoc]; cases oc <;> simp_all
  · intro c c' y y' hy hy' hrc hlc e
    have hrc' : rw? h c = true := by
      by_cases ec : c = b
      · subst ec; exact hr
      · unfold rw? at hrc ⊢; rwa [updH_ne ec] at hrc
    have hlc' : live? h c' = true := by
      by_cases ec : c' = b
      · subst ec; exact live_of_rw hr
      · unfold live? at hlc ⊢; rwa [updH_ne ec] at hlc
    exact s.inj c c' y y' hy hy' hrc' hlc' e
  · intro r hrr hh
    exact wput_ne (Ne.symm (hh b x hm hr))
  · intro c oc hoc
    by_cases e : c = b
    · subst e; exact ⟨o', updH_self⟩
    · exact ⟨oc, by rw [updH_ne e]; exact hoc⟩
  · intro c y hy hrc
    by_cases e : c = b
    · subst e; exact hr
    · unfold rw? at hrc ⊢; rwa [updH_ne e] at hrc
omit [Inhabited Prop] in
theorem le_put {b : Nat} {o o' : Blk} (hb : h b = some o) (hd : o ≠ .dead) : Le m h m (updH h b o') := by
  refine ⟨fun c hc => ?_, fun c y hy => .inr hy, fun _ _ _ _ h => h⟩
  by_cases e : c = b
  · subst e; rw [hb] at hc; cases hc; exact absurd rfl hd
  · rw [updH_ne e]; exact hc
theorem put_cells (s : Sim m h w) {b off : Nat} {ty : TypeId} {cs ns : List Value} {us : List Value} {x : Nat × Nat × Nat} (hb : h b = some (.cells ty cs false)) (hm : m b = some x)
    (hn : VRelL m h ns us) (ho : ns.all isOne = true) (hl : off + ns.length ≤ cs.length) :
    ∃ w', (storeCells ⟨x.1, x.2.1 + off, none⟩ us).run P w = .ok () w' ∧ Go1 m h w m (updH h b (.cells ty (putL cs off ns) false)) w' := by
  obtain ⟨c, fr, h1, h2, h3, h4, h5⟩ := Sim.row (s := s) hb hm
  have hone : ∀ v ∈ us, v.oneCell' = true := by
    intro v hv
    obtain ⟨i, hi, rfl⟩ := List.getElem_of_mem hv
    have hi' : i < ns.length := by rw [hn.1]; exact hi
    have := hn.2 i ns[i] us[i] (List.getElem?_eq_getElem hi') (List.getElem?_eq_getElem hi)
    exact this.isOne (List.all_eq_true.1 ho _ (List.getElem_mem hi'))
  have hlen : us.length = ns.length := hn.1.symm
  refine ⟨_, run_storeCells us 0 c w h1 (fun j hj => h5.1 rfl j (Nat.le_of_lt hj)) (by omega) hone, ?_⟩
  refine put_go s hb hm (by simp [rw?, hb]) (by simp [rw?, updH_self]) ?_
  have hle : Le m h m (updH h b (.cells ty (putL cs off ns) false)) := le_put hb (by simp)
  refine ⟨_, fr, wput_at h1, by rw [putL_length]; exact h2, by simpa [putL_length] using h3, ?_, fun _ j hj => h5.1 rfl j (by simpa [putL_length] using hj), fun h => by cases h⟩
  intro i v v' g1 g2
  have g2' : (putL c.toList (x.2.1 + off + 0) us)[x.2.1 + i]? = some v' := by simpa using g2
  rw [putL_get] at g1 g2'
  by_cases hc : off ≤ i ∧ i < off + ns.length ∧ i < cs.length
  · rw [if_pos hc] at g1
    rw [if_pos (by simp; omega)] at g2'
    rw [show x.2.1 + i - (x.2.1 + off + 0) = i - off from by omega] at g2'
    exact (hn.2 _ _ _ g1 g2').mono hle
  · rw [if_neg hc] at g1
    have hi : i < cs.length := (List.getElem?_eq_some_iff.1 g1).1
    rw [if_neg (by simp; omega)] at g2'
    exact (h4 i v v' g1 (by simpa using g2')).mono hle
omit [Inhabited Prop] in
theorem cellsL_all {v : Value} : cellsL v = v.cells.toList := (cells_toList v).symm
theorem aStore_sound (s : Sim m h w) {t : TypeId} {x x' v v' : Value} {es : List Eff} (he : aStore P h t x v = some es) (rx : VRel m h x x') (rv : VRel m h v v') :
    ∃ b o w', es = [.put b o] ∧ (Instr.storeAt t x' v').run P w = .ok () w' ∧ Go1 m h w m (updH h b o) w' := by
  unfold aStore at he
  split at he
  · rename_i a
    obtain ⟨b, off, r, off', rfl, rfl, hh⟩ := rx.of_ptr
    split at he
    · rename_i ty cs hb
      split at he
      · rename_i n hn
        split at he
        · rename_i hc
          cases he
          simp only [Bool.and_eq_true, decide_eq_true_eq] at hc
          obtain ⟨⟨hc1, hc2⟩, hc3⟩ := hc
          dsimp only at hb hc3 ⊢
          rcases hh with hh | ⟨δ, E, hm, rfl⟩
          · rw [hb] at hh; cases hh
          · have hcells := rv.cells (by
              cases e : isJunk v with
              | false => rfl
              | true =>
                unfold isJunk at e
                split at e
                · simp [cellsL, isOne] at hc2
                · cases e)
            obtain ⟨w', h1, h2⟩ := put_cells (P := P) (off := off) s hb hm hcells hc2 (by omega)
            refine ⟨_, _, w', rfl, ?_, h2⟩
            simp only [Instr.storeAt, Instr.sureAddr, Sem.run_bind, Sem.run_pure, Result.andThen_ok, storeVar, run_size hn]
            have hsz : v'.cells.size = n := by
              have := hcells.1
              rw [hc1, cellsL_all] at this
              simpa using this.symm
            rw [if_neg (by simp [hsz]), cells_toList]
            exact h1
        · cases he
      · cases he
    · cases he
  · cases he
omit [Inhabited Prop] in
theorem map_u8_flat : ∀ l : List UInt8, (l.map fun b => (Value.int .u8 b.toNat)).all AI.flat = true
  | [] => rfl
  | b :: l => by simp only [List.map_cons, List.all_cons, map_u8_flat l, Bool.and_true]; rfl
omit [Inhabited Prop] in
theorem srcCells_sound (s : Sim m h w) {size n : Nat} {x x' : Value} {ns : List Value} (he : srcCells h size n x = some ns) (rx : VRel m h x x') :
    ∃ c : Array Value, (∀ w', w'.heap = w.heap → (Builtin.firstCells size n x').run P w' = .ok c w') ∧ VRelL m h ns c.toList := by
  unfold srcCells at he
  split at he
  · obtain rfl := rx.of_flat rfl
    split at he
    · cases he; exact ⟨#[], fun _ _ => rfl, .nil⟩
    · cases he
  · rename_i a len c
    obtain ⟨b, off, r, off', cap, rfl, rfl, hlc, hh⟩ := rx.of_slice
    split at he
    · rename_i h0
      cases he; subst h0
      refine ⟨#[], fun w' _ => ?_, .nil⟩
      simp [Builtin.firstCells, loadCells, loadCellsFrom]
    · rename_i hn
      split at he
      · cases he
      · rename_i hln
        split at he
        · rename_i ty cs ro hb
          dsimp only at hb he
          rcases hh with hh | ⟨δ, E, hm, h2, _⟩
          · rw [hb] at hh; cases hh
          · obtain ⟨cc, fr, g1, g2, g3, g4, _⟩ := Sim.row (s := s) hb hm
            dsimp only at g1 g2 g3 g4
            obtain ⟨h5, h6, h7⟩ := range_rel he (by omega) g4
            rcases h2 with rfl | h2
            · refine ⟨cc.extract (δ + off) (δ + off + n * size), fun w' e => ?_, by rw [ext_toList]; exact h5⟩
              simp only [Builtin.firstCells]
              exact run_loadCells (by rw [e]; exact g1) (by rcases h6 with h6 | h6; exact .inl h6; exact .inr (by omega))
            · omega
        · cases he
  · rename_i str
    obtain rfl := rx.of_string
    cases he
    refine ⟨(str.extract 0 n).data.map fun b => .int .u8 b.toNat, fun _ _ => rfl, ?_⟩
    have e : ((str.extract 0 n).data.map fun b => (Value.int .u8 b.toNat)).toList = (str.data.toList.take n).map fun b => .int .u8 b.toNat := by
      rw [Array.toList_map, Lib.extract_data]; simp
    rw [e]
    exact VRelL.flats (map_u8_flat _)
  · rename_i len ty cs
    split at he
    · rename_i h0
      cases he; subst h0
      rcases VRel.of_lit (cs := cs.toList) rx with ⟨r, off, cap, rfl, _⟩ | ⟨_, _, rfl | ⟨a, cap, rfl⟩⟩
      · refine ⟨#[], fun w' _ => ?_, .nil⟩
        simp [Builtin.firstCells, loadCells, loadCellsFrom]
      · exact ⟨#[], fun _ _ => rfl, .nil⟩
      · refine ⟨#[], fun w' _ => ?_, .nil⟩
        simp [Builtin.firstCells, loadCells, loadCellsFrom]
    · rename_i hn
      split at he
      · cases he
      · rename_i hln
        rcases VRel.of_lit (cs := cs.toList) rx with ⟨r, off, cap, rfl, hl, _⟩ | ⟨rfl, _, _⟩
        · obtain ⟨cc, fr, g1, g2, g3⟩ := (s.lit _ _ _ _ hl).row
          obtain ⟨h5, h6, h7⟩ := range_rel he (by simpa using g2) (fun i v v' a b => (g3 i v v' a b).vrel)
          refine ⟨cc.extract (off + 0) (off + 0 + n * size), fun w' e => ?_, by rw [ext_toList]; exact h5⟩
          simp only [Builtin.firstCells]
          exact run_loadCells (by rw [e]; exact g1) (by rcases h6 with h6 | h6; exact .inl h6; exact .inr (by omega))
        · exact absurd (Nat.pos_of_ne_zero hn) hln
  · cases he
omit [Inhabited Prop] in
theorem srcLen_sound {x x' : Value} {n : Nat} (he : srcLen x = some n) (rx : VRel m h x x') : ∀ w', (Builtin.lenOf x').run P w' = .ok n w' := by
  intro w'
  unfold srcLen at he
  split at he
  · rename_i a len c
    cases he
    cases a with
    | none => obtain ⟨rfl, _, rfl⟩ := rx.of_nilslice; rfl
    | some a => obtain ⟨_, _, _, _, _, _, rfl, _⟩ := rx.of_slice; rfl
  · obtain rfl := rx.of_string; cases he; rfl
  · rename_i n ty cs
    cases he
    rcases VRel.of_lit (cs := cs.toList) rx with ⟨r, off, cap, rfl, _⟩ | ⟨rfl, _, rfl | ⟨a, cap, rfl⟩⟩ <;> rfl
  · cases he
omit [Inhabited Prop] in
theorem ones_rel {ns us : List Value} (hn : VRelL m h ns us) (ho : ns.all isOne = true) : ∀ v ∈ us, v.oneCell' = true := by
  intro v hv
  obtain ⟨i, hi, rfl⟩ := List.getElem_of_mem hv
  have hi' : i < ns.length := by rw [hn.1]; exact hi
  exact (hn.2 i ns[i] us[i] (List.getElem?_eq_getElem hi') (List.getElem?_eq_getElem hi)).isOne (List.all_eq_true.1 ho _ (List.getElem_mem hi'))
omit [Inhabited Prop] in
theorem zeroCells_eq (z : Array Value) (n : Nat) (h0 : 0 < z.size) : (Builtin.zeroCells z n).toList = repL z.toList n := by
  unfold Builtin.zeroCells
  exact range_zero z n (.inr h0)
omit [Inhabited Prop] in
theorem growBy_le (n : Nat) : ∀ (r c : Nat), c ≤ n + (n + 768) / 4 → Builtin.growBy n r c ≤ n + (n + 768) / 4
  | 0, c, hc => hc
  | r + 1, c, hc => by
    unfold Builtin.growBy
    split
    · exact hc
    · exact growBy_le n r _ (by omega)
omit [Inhabited Prop] in
theorem nextcap_le {n c : Nat} (h1 : c < n) (h2 : n ≤ 2147483647) : Builtin.nextslicecap n c ≤ 4294967296 := by
  unfold Builtin.nextslicecap
  split
  · omega
  · split
    · omega
    · have := growBy_le n 4 c (by omega)
      omega
structure AppSrc (P : Program) (w : World) (elem : TypeId) (size : Nat) (xd : TypeDesc) (x : Value) (n : Nat) (c : Array Value) : Prop where
  other : (∀ k, xd ≠ .int k) → (∀ w', (Builtin.lenOf x).run P w' = .ok n w') ∧ ∀ w', w'.heap = w.heap → (Builtin.firstCells size n x).run P w' = .ok c w'
  nums : ∀ k, xd = .int k → ∃ kk q z, x = .int kk q ∧ 0 ≤ q ∧ q ≤ 2147483647 ∧ n = q.toNat ∧ 0 < size ∧ (∀ w', (zeroValue elem).run P w' = .ok z w') ∧ c = if n * size = 0 then #[] else Builtin.zeroCells z.cells n
section
variable {st xt elem : TypeId} {xd : TypeDesc} {ts : Array TypeId} {ty : TypeId} {args : Array Value} {base : Option Addr} {sLen sCap n size : Nat} {i : TypeInfo} {x : Value} {c : Array Value}
omit [Inhabited Prop] in
theorem append_room (h0 : ts[0]? = some st) (h1 : ts[1]? = some xt) (a0 : args[0]? = some (.slice base sLen sCap)) (a1 : args[1]? = some x) (hs : P.underlying st = some (.slice elem)) (hx : P.underlying xt = some xd) (hi : P.info? elem = some i)
    (hb : i.bytes ≤ 32768) (ha : AppSrc P w elem i.size xd x n c) (hroom : sLen + n ≤ sCap) {w' : World}
    (hst : (match base with | some a => storeCells (a.add (sLen * i.size)) c.toList | none => pure () : Sem Unit).run P w = .ok () w') :
    (Builtin.append_ ts ty args).run P w = .ok (.slice base (sLen + n) sCap) w' := by
  have hsize : ∀ w', (sizeOf elem).run P w' = .ok i.size w' := fun w' => run_size (by simp [tsize, hi])
  cases xd with
  | int k =>
    obtain ⟨kk, q, z, rfl, q0, q1, rfl, hs0, hz, rfl⟩ := ha.nums k rfl
    have hb2 : ¬ (q * (i.bytes : Int) > 2 ^ 48) := by
      have : q * (i.bytes : Int) ≤ 2147483647 * 32768 := Int.mul_le_mul q1 (by omega) (by omega) (by omega)
      omega
    unfold Builtin.append_
    simp only [h0, h1, a0, a1, Sem.run_bind, run_under hs, run_under hx, Result.andThen_ok, hsize, Sem.run_pure, if_true, asInt, asIntOf, wrap_small q0 q1, if_neg (show ¬ q < 0 by omega), run_info hi, if_neg hb2, if_pos hroom]
    cases base with
    | none =>
      simp at hst; subst hst
      by_cases h00 : q.toNat * i.size = 0
      · simp [h00]
      · simp [h00, hz]
    | some a =>
      simp only at hst
      by_cases h00 : q.toNat * i.size = 0
      · rw [if_pos h00] at hst
        simp [h00, hst]
      · rw [if_neg h00] at hst
        simp [h00, hz, hst]
  | _ =>
    obtain ⟨hn, hc⟩ := ha.other (by simp)
    unfold Builtin.append_
    simp only [h0, h1, a0, a1, Sem.run_bind, run_under hs, run_under hx, Result.andThen_ok, hsize, Sem.run_pure, Bool.false_eq_true, if_false, hn, hc w rfl, if_pos hroom, Bool.not_false, if_true]
    cases base with
    | none => simp at hst; subst hst; simp
    | some a => simp only at hst; simp [hst]
omit [Inhabited Prop] in
theorem append_grow (h0 : ts[0]? = some st) (h1 : ts[1]? = some xt) (a0 : args[0]? = some (.slice base sLen sCap)) (a1 : args[1]? = some x) (hs : P.underlying st = some (.slice elem)) (hx : P.underlying xt = some xd) (hi : P.info? elem = some i)
    (hb : i.bytes ≤ 32768) (ha : AppSrc P w elem i.size xd x n c) (hroom : sCap < sLen + n) (hmax : sLen + n ≤ 2147483647) {old : Array Value} {zv : Value} (hold : ∀ w', w'.heap = w.heap → (Builtin.firstCells i.size sLen (.slice base sLen sCap)).run P w' = .ok old w')
    (hz : ∀ w', (zeroValue elem).run P w' = .ok zv w') :
    ∃ nc, sLen + n ≤ nc ∧ (Builtin.append_ ts ty args).run P w = .ok (.slice (some ⟨w.heap.size, 0, none⟩) (sLen + n) nc)
      (w.drew.alloc (.cells (old ++ c ++ Builtin.zeroCells zv.cells (nc - (sLen + n))) elem)) := by
  have hsize : ∀ w', (sizeOf elem).run P w' = .ok i.size w' := fun w' => run_size (by simp [tsize, hi])
  have hbig : ¬ (((sLen + n : Nat) : Int) > IntKind.i64.max) := by simp only [IntKind.max, IntKind.signed, IntKind.bits]; simp; omega
  have hcap : ¬ (Builtin.nextslicecap (sLen + n) sCap * i.bytes > 2 ^ 48) := by
    have h3 := nextcap_le hroom hmax
    have : Builtin.nextslicecap (sLen + n) sCap * i.bytes ≤ 4294967296 * 32768 := Nat.mul_le_mul h3 hb
    omega
  have hforced : (Question.appendCap (sLen + n) sCap elem).forced = false := rfl
  refine ⟨(Question.appendCap (sLen + n) sCap elem).cut (w.tape w.drawn (.appendCap (sLen + n) sCap elem)), by simp [Question.cut], ?_⟩
  generalize hnc : (Question.appendCap (sLen + n) sCap elem).cut (w.tape w.drawn (.appendCap (sLen + n) sCap elem)) = nc
  cases xd with
  | int k =>
    obtain ⟨kk, q, z, rfl, q0, q1, rfl, hs0, hzz, rfl⟩ := ha.nums k rfl
    have hb2 : ¬ (q * (i.bytes : Int) > 2 ^ 48) := by
      have : q * (i.bytes : Int) ≤ 2147483647 * 32768 := Int.mul_le_mul q1 (by omega) (by omega) (by omega)
      omega
    have hz1 : z = zv := by have h5 := hzz w; rw [hz w] at h5; cases h5; rfl
    subst hz1
    unfold Builtin.append_
    simp only [h0, h1, a0, a1, Sem.run_bind, run_under hs, run_under hx, Result.andThen_ok, hsize, Sem.run_pure, if_true, asInt, asIntOf, wrap_small q0 q1, if_neg (show ¬ q < 0 by omega), run_info hi, if_neg hb2, if_neg (show ¬ sLen + q.toNat ≤ sCap by omega)]
    rw [if_neg (by simp only [not_and]; intro h; exact absurd h hbig)]
    simp only [Sem.run_bind, run_info hi, Result.andThen_ok, if_neg hcap, run_choose, hforced, Bool.false_eq_true, if_false, hnc, run_askRoom]
    have hold2 := hold w.drew rfl
    by_cases h00 : q.toNat * i.size = 0
    · simp [h00, hold2, hz, newRow]
    · simp [h00, hold2, hz, newRow]
  | _ =>
    obtain ⟨hn, hc⟩ := ha.other (by simp)
    unfold Builtin.append_
    simp only [h0, h1, a0, a1, Sem.run_bind, run_under hs, run_under hx, Result.andThen_ok, hsize, Sem.run_pure, Bool.false_eq_true, if_false, hn, if_neg (show ¬ sLen + n ≤ sCap by omega), run_info hi]
    rw [if_neg (by simp only [not_and]; intro h; exact absurd h hbig)]
    simp only [Sem.run_bind, run_info hi, Result.andThen_ok, if_neg hcap, run_choose, hforced, Bool.false_eq_true, if_false, hnc, run_askRoom]
    have hold2 := hold w.drew rfl
    have hc2 := hc w.drew rfl
    simp [hold2, hz, hc2, newRow]
end
end
end Go.Proofs.Ytbhmodlpolgklaa.AI
namespace Go.Proofs.Ytbhmodlpolgklaa.AI
open Go
variable [Inhabited Prop]
def effG (h : HG) (sz : Nat) : List Eff → HG
  | [] => h
  | .put b o :: es => effG (updH h b o) sz es
  | .push o :: es => effG (updH h sz o) (sz + 1) es
section
variable {P : Program} {w : World} {m : BM} {h : HG}
def Writes (P : Program) (m : BM) (h : HG) (w : World) (sz : Nat) (es : List Eff) (v : Value) (r : Result Value) : Prop :=
  ∃ v' w' m', r = .ok v' w' ∧ Go1 m h w m' (effG h sz es) w' ∧ VRel m' (effG h sz es) v v'
omit [Inhabited Prop] in
theorem run_zeroW {t : TypeId} {z : List Value} (hz : tzero P t = some z) : ∃ v, (∀ w, (zeroValue t).run P w = .ok v w) ∧ cellsL v = z ∧ z.all AI.flat = true := by
  unfold tzero at hz
  cases hi : P.info? t with
  | none => simp [hi] at hz
  | some i =>
    simp only [hi, Option.bind_some] at hz
    cases hv : i.zero with
    | none => simp [hv] at hz
    | some v =>
      simp only [hv] at hz
      split at hz
      · rename_i ha; cases hz
        exact ⟨v, fun w => by simp [zeroValue, run_info hi, hv], rfl, ha⟩
      · cases hz
omit [Inhabited Prop] in
theorem aSrc_sound (s : Sim m h w) {elem : TypeId} {size n : Nat} {zero : List Value} {zv : Value} {xd : TypeDesc} {x x' : Value} {ns : List Value} (he : aSrc P h size zero xd x = some (ns, n)) (rx : VRel m h x x')
    (hz : ∀ w, (zeroValue elem).run P w = .ok zv w) (hzc : cellsL zv = zero) (hzf : zero.all AI.flat = true) (hzs : zero.length = size) (h0 : 0 < size) :
    ∃ c, AppSrc P w elem size xd x' n c ∧ VRelL m h ns c.toList := by
  unfold aSrc at he
  split at he
  · rename_i k
    split at he
    · rename_i kk q
      obtain rfl := rx.of_int
      split at he
      · rename_i hq
        cases he
        have hzz : zv.cells.size = size := by
          have : zv.cells.toList.length = size := by rw [cells_toList, hzc]; exact hzs
          simpa using this
        refine ⟨if q.toNat * size = 0 then #[] else Builtin.zeroCells zv.cells q.toNat, ⟨fun hk => absurd rfl (hk k), fun k' _ => ⟨kk, q, zv, rfl, hq.1, hq.2, rfl, h0, hz, rfl⟩⟩, ?_⟩
        have e : (if q.toNat * size = 0 then #[] else Builtin.zeroCells zv.cells q.toNat : Array Value).toList = repL zero q.toNat := by
          by_cases h00 : q.toNat * size = 0
          · have : q.toNat = 0 := by
              rcases Nat.mul_eq_zero.1 h00 with h1 | h1
              · exact h1
              · omega
            simp [this, repL]
          · rw [if_neg h00, zeroCells_eq _ _ (by omega), cells_toList, hzc]
        rw [e]
        exact VRelL.flats (repL_flat hzf _)
      · cases he
    · cases he
  · rename_i hk
    split at he
    · cases he
    · rename_i m' hm
      obtain ⟨ns', hns, e⟩ := Option.map_eq_some_iff.1 he
      cases e
      obtain ⟨c, h1, h2⟩ := srcCells_sound (P := P) s hns rx
      exact ⟨c, ⟨fun _ => ⟨srcLen_sound hm rx, h1⟩, fun k e => absurd e (hk k)⟩, h2⟩
omit [Inhabited Prop] in
theorem own_cells (s : Sim m h w) {b off r off' len cap size δ E : Nat} {ty : TypeId} {cs old : List Value} {ro : Bool} (hb : h b = some (.cells ty cs ro)) (hm : m b = some (r, δ, E)) (ho : getR cs off (len * size) = some old) (h2 : off' = δ + off ∨ cap = 0) (hlc : len ≤ cap) :
    ∃ cc : Array Value, (∀ w', w'.heap = w.heap → (Builtin.firstCells size len (.slice (some ⟨r, off', none⟩) len cap)).run P w' = .ok cc w') ∧ VRelL m h old cc.toList := by
  obtain ⟨c, fr, g1, g2, g3, g4, _⟩ := Sim.row (s := s) hb hm
  dsimp only at g1 g2 g3 g4
  obtain ⟨h5, h6, h7⟩ := range_rel ho (by omega) g4
  by_cases h0 : len * size = 0
  · refine ⟨#[], fun w' _ => ?_, ?_⟩
    · simp [Builtin.firstCells, loadCells, loadCellsFrom, h0]
    · have : old = [] := by apply List.eq_nil_of_length_eq_zero; omega
      rw [this]; exact .nil
  · have hl : 0 < len := by
      rcases Nat.eq_zero_or_pos len with h | h
      · subst h; simp at h0
      · exact h
    refine ⟨c.extract (δ + off) (δ + off + len * size), fun w' e => ?_, by rw [ext_toList]; exact h5⟩
    simp only [Builtin.firstCells]
    rcases h2 with rfl | h2
    · exact run_loadCells (by rw [e]; exact g1) (by rcases h6 with h6 | h6; exact .inl h6; exact .inr (by omega))
    · omega
theorem grown_go (s : Sim m h w) {sz : Nat} (hs : h sz = none) {ty : TypeId} {cs : List Value} {c : Array Value} (hc : VRelL m h cs (c.toList.take cs.length)) (hl : cs.length ≤ c.size) :
    Go1 m h w (updM m sz (w.heap.size, 0, c.size)) (updH h sz (.cells ty cs false)) (w.drew.alloc (.cells c ty)) := by
  have s' : Sim m h w.drew := s.heap rfl
  have := push_go (o := .cells ty cs false) (obj := .cells c ty) (E := c.size) s' hs (cells_new (fr := (0, 0)) hc hl (fun j _ => by simp))
  exact this.heap rfl rfl ⟨rfl, fun _ => Nat.le_succ _⟩ rfl
theorem kill_go (s : Sim m h w) {b : Nat} {o : Blk} {x : Nat × Nat × Nat} (hb : h b = some o) (hm : m b = some x) : Go1 m h w m (updH h b .dead) w := by
  have hl : Le m h m (updH h b .dead) := by
    refine ⟨fun c hc => ?_, fun c y hy => .inr hy, fun _ _ _ _ h => h⟩
    by_cases e : c = b
    · subst e; exact updH_self
    · rw [updH_ne e]; exact hc
  have hlive : ∀ c, live? (updH h b .dead) c = true → c ≠ b ∧ live? h c = true := by
    intro c hc
    by_cases e : c = b
    · subst e; simp [live?, updH_self] at hc
    · exact ⟨e, by unfold live? at hc ⊢; rwa [updH_ne e] at hc⟩
  have hrw : ∀ c, rw? (updH h b .dead) c = true → rw? h c = true := by
    intro c hc
    have := (hlive c (live_of_rw hc)).1
    unfold rw? at hc ⊢; rwa [updH_ne this] at hc
  refine Go0.go ⟨hl, ⟨?_, ?_⟩, Nat.le_refl _, fun _ _ hx => .inl hx, fun _ _ _ => rfl, fun _ _ _ hm => hm, fun c oc hc hcm => by
    have e : c ≠ b := by intro e; subst e; rw [hm] at hcm; cases hcm
    rw [updH_ne e]; exact hc, ?_, fun c y _ hc => hrw c hc, rfl, ⟨rfl, fun _ => Nat.le_refl _⟩, rfl⟩ s rfl
  · intro c y hy
    by_cases e : c = b
    · subst e; exact ⟨.dead, updH_self, trivial⟩
    · obtain ⟨oc, hoc, hrc⟩ := s.dom c y hy
      exact ⟨oc, by rw [updH_ne e]; exact hoc, hrc.mono hl rfl⟩
  · intro c c' y y' hy hy' hrc hlc e
    exact s.inj c c' y y' hy hy' (hrw c hrc) (hlive c' hlc).2 e
  · intro c oc hoc
    by_cases e : c = b
    · subst e; exact ⟨.dead, updH_self⟩
    · exact ⟨oc, by rw [updH_ne e]; exact hoc⟩
theorem take_go (s : Sim m h w) {b sz r δ E δ' : Nat} {o o' : Blk} {obj : Obj} (hb : h b = some o) (hr : rw? h b = true) (hm : m b = some (r, δ, E)) (hs : h sz = none)
    (hw : ∀ m' h', Le m h m' h' → BRel m' h' (wput w r obj) (r, δ', E) o') : Go1 m h w (updM m sz (r, δ', E)) (updH (updH h b .dead) sz o') (wput w r obj) := by
  have hms : m sz = none := by
    cases e : m sz with
    | none => rfl
    | some x => obtain ⟨o, ho, _⟩ := s.dom _ _ e; rw [hs] at ho; cases ho
  have hbs : b ≠ sz := by intro e; subst e; rw [hb] at hs; cases hs
  have k := kill_go s hb hm
  have hs2 : (updH h b .dead) sz = none := by rw [updH_ne (Ne.symm hbs)]; exact hs
  have l : Le m h (updM m sz (r, δ', E)) (updH (updH h b .dead) sz o') := k.le.trans (Le.push hs2 hms)
  have hget : ∀ c, c ≠ sz → c ≠ b → (updH (updH h b .dead) sz o') c = h c := fun c e1 e2 => by rw [updH_ne e1, updH_ne e2]
  have hdead : (updH (updH h b .dead) sz o') b = some .dead := by rw [updH_ne hbs]; exact updH_self
  have hlive : ∀ c, c ≠ sz → live? (updH (updH h b .dead) sz o') c = true → c ≠ b ∧ live? h c = true := by
    intro c e hc
    by_cases e2 : c = b
    · subst e2; simp [live?, hdead] at hc
    · exact ⟨e2, by unfold live? at hc ⊢; rwa [hget c e e2] at hc⟩
  have hrwv : ∀ c, c ≠ sz → rw? (updH (updH h b .dead) sz o') c = true → rw? h c = true := by
    intro c e hc
    have e2 := (hlive c e (live_of_rw hc)).1
    unfold rw? at hc ⊢; rwa [hget c e e2] at hc
  have hmn : ∀ c y, c ≠ sz → updM m sz (r, δ', E) c = some y → m c = some y := fun c y e hy => by simpa [updM, e] using hy
  refine Go0.go ⟨l, ⟨?_, ?_⟩, by rw [wput_size]; exact Nat.le_refl _, ?_, ?_, ?_, fun c oc hc hcm => by
    have e : c ≠ sz := by intro e; subst e; rw [hc] at hs; cases hs
    have e2 : c ≠ b := by intro e; subst e; rw [hm] at hcm; cases hcm
    rw [hget c e e2]; exact hc, ?_, ?_, rfl, ⟨rfl, fun _ => Nat.le_refl _⟩, rfl⟩ s rfl
  · intro c y hy
    by_cases e : c = sz
    · subst e; simp [updM] at hy; subst hy
      exact ⟨o', updH_self, hw _ _ l⟩
    · have hy' := hmn c y e hy
      by_cases e2 : c = b
      · subst e2; exact ⟨.dead, hdead, trivial⟩
      · obtain ⟨oc, hoc, hrc⟩ := s.dom c y hy'
        refine ⟨oc, by rw [hget c e e2]; exact hoc, ?_⟩
        by_cases hd : oc = .dead
        · subst hd; trivial
        · refine hrc.mono l (wput_ne ?_)
          intro exx
          refine e2 (s.inj b c (r, δ, E) y hm hy' hr ?_ exx.symm).symm
          unfold live?; rw [hoc]; cases oc <;> simp_all
  · intro c c' y y' hy hy' hrc hlc e
    by_cases e1 : c = sz <;> by_cases e2 : c' = sz
    · rw [e1, e2]
    · subst e1; simp [updM] at hy; subst hy
      have hy2 := hmn c' y' e2 hy'
      obtain ⟨e3, hl3⟩ := hlive c' e2 hlc
      exact absurd (s.inj b c' (r, δ, E) y' hm hy2 hr hl3 e).symm e3
    · subst e2; simp [updM] at hy'; subst hy'
      have hy2 := hmn c y e1 hy
      obtain ⟨e3, hl3⟩ := hlive c e1 (live_of_rw hrc)
      exact absurd (s.inj b c (r, δ, E) y hm hy2 hr hl3 e.symm).symm e3
    · exact s.inj c c' y y' (hmn c y e1 hy) (hmn c' y' e2 hy') (hrwv c e1 hrc) (hlive c' e2 hlc).2 e
  · intro c y hy
    by_cases e : c = sz
    · subst e; simp [updM] at hy; subst hy
      exact .inr (.inr ⟨b, (r, δ, E), hm, hr, rfl⟩)
    · exact .inl (hmn c y e hy)
  · intro q hq hh
    exact wput_ne (Ne.symm (hh b _ hm hr))
  · intro c oc hoc hmc
    have e : c ≠ sz := by intro e; subst e; rw [hoc] at hs; cases hs
    simp only [updM_at]; rw [if_neg e]; exact hmc
  · intro c oc hoc
    have e : c ≠ sz := by intro e; subst e; rw [hoc] at hs; cases hs
    by_cases e2 : c = b
    · subst e2; exact ⟨.dead, hdead⟩
    · exact ⟨oc, by rw [hget c e e2]; exact hoc⟩
  · intro c y hy hc
    have e : c ≠ sz := by intro e; subst e; rw [hms] at hy; cases hy
    exact hrwv c e hc
theorem aAppend_sound (s : Sim m h w) {sz : Nat} {ts : Array TypeId} {ty : TypeId} {xs : List Value} {xs' : Array Value} {v : Value} {es : List Eff} (hsz : (∃ o, Eff.push o ∈ es) → h sz = none) (he : aAppend P h sz ts.toList xs = some (v, es)) (rs : VRelL m h xs xs'.toList) :
    Writes P m h w sz es v ((Builtin.append_ ts ty xs').run P w) := by
  unfold aAppend at he
  split at he
  · rename_i st xt tr sv x xr hts
    obtain ⟨s', xr', e1, rsv, rs'⟩ := rs.of_cons
    obtain ⟨x', xr'', e2, rx, rs''⟩ := rs'.of_cons
    subst e2
    have h0 : ts[0]? = some st := by
      have : ts.toList[0]? = some st := by rw [hts]; rfl
      simpa using this
    have h1 : ts[1]? = some xt := by
      have : ts.toList[1]? = some xt := by rw [hts]; rfl
      simpa using this
    have a0 : xs'[0]? = some s' := by
      have : xs'.toList[0]? = some s' := by rw [e1]; rfl
      simpa using this
    have a1 : xs'[1]? = some x' := by
      have : xs'.toList[1]? = some x' := by rw [e1]; rfl
      simpa using this
    split at he
    · rename_i elem xd hs hx
      split at he
      · cases he
      · rename_i i hi
        split at he
        · cases he
        · rename_i zero hz
          split at he
          · cases he
          · rename_i hc
            simp only [not_or, Decidable.not_not, Nat.not_lt] at hc
            obtain ⟨hne, hzl, hc2⟩ := hc
            have hpos : 0 < i.size := Nat.pos_of_ne_zero hne
            obtain ⟨zv, hzv, hzc, hzf⟩ := run_zeroW hz
            have hzcl : ∀ k, (Builtin.zeroCells zv.cells k).toList = repL zero k := by
              intro k
              rw [zeroCells_eq _ _ (by have : zv.cells.toList.length = i.size := by rw [cells_toList, hzc]; exact hzl
                                       simp at this; omega), cells_toList, hzc]
            split at he
            · cases he
            · rename_i ns mm hsrc
              obtain ⟨c, happ, hcr⟩ := aSrc_sound s hsrc rx hzv hzc hzf hzl hpos
              split at he
              · cases he
              · rename_i hns
                simp only [not_or, Bool.not_eq_false, Decidable.not_not] at hns
                obtain ⟨hns1, hnsl⟩ := hns
                have hcl : c.toList.length = mm * i.size := by rw [← hcr.1, hnsl]
                have same : ∀ (base : Option Addr) (len cap : Nat), s' = .slice base len cap → VRel m h sv s' → mm = 0 → len ≤ cap → Writes P m h w sz [] sv ((Builtin.append_ ts ty xs').run P w) := by
                  intro base len cap e rv h00 hlc
                  subst h00
                  have hc0 : c.toList = [] := by apply List.eq_nil_of_length_eq_zero; omega
                  refine ⟨s', w, m, ?_, Go1.refl s, rv⟩
                  rw [append_room (i := i) (c := c) (n := 0) (sLen := len) (sCap := cap) (base := base) h0 h1 (by rw [a0, e]) a1 hs hx hi hc2 happ (by omega) (w' := w) (by rw [hc0]; cases base <;> rfl), e]
                  rfl
                split at he
                · obtain rfl := rsv.of_flat rfl
                  split at he
                  · rename_i h00
                    cases he
                    exact same none 0 0 rfl rsv h00 (Nat.le_refl _)
                  · rename_i h00
                    split at he
                    · cases he
                    · rename_i hmx
                      cases he
                      have hsz := hsz (by simp)
                      obtain ⟨nc, hnc, hrun⟩ := append_grow (P := P) (w := w) (ty := ty) (sLen := 0) (sCap := 0) (base := none) (n := mm) (c := c) (old := #[]) h0 h1 a0 a1 hs hx hi hc2 happ (by omega) (by omega) (fun _ _ => rfl) hzv
                      have hl2 : ns.length ≤ (#[] ++ c ++ Builtin.zeroCells zv.cells (nc - (0 + mm))).size := by
                        have := hcr.1; simp at this; simp; omega
                      have hg := grown_go (ty := elem) (cs := ns) (c := #[] ++ c ++ Builtin.zeroCells zv.cells (nc - (0 + mm))) s hsz (by
                        have : (#[] ++ c ++ Builtin.zeroCells zv.cells (nc - (0 + mm))).toList.take ns.length = c.toList := by
                          rw [hcr.1]; simp
                        rw [this]; exact hcr) hl2
                      refine ⟨_, _, _, hrun, hg, ?_⟩
                      rw [Nat.zero_add] at hnc ⊢
                      refine .slice (.of hnc (by omega)) (.inr ⟨0, _, updM_self, .inl rfl, fun hh => by omega, fun _ => ?_⟩)
                      rw [show (3 * i.size + 1) / 3 = i.size from by omega]
                      have hz2 : (Builtin.zeroCells zv.cells (nc - mm)).size = (nc - mm) * i.size := by
                        have := congrArg List.length (hzcl (nc - mm))
                        rw [repL_length, hzl] at this
                        simpa using this
                      have hcs : c.size = mm * i.size := by simpa using hcl
                      simp [hz2, hcs]
                      rw [← Nat.add_mul]; congr 1; omega
                · rename_i a len cf
                  obtain ⟨b, off, r, off', cap, rfl, e3, hlc, hh⟩ := rsv.of_slice
                  split at he
                  · rename_i h00
                    cases he
                    exact same _ len cap e3 rsv h00 hlc
                  · rename_i h00
                    split at he
                    · cases he
                    · rename_i hmx
                      split at he
                      · rename_i ty' cs ro hb
                        dsimp only at hb he
                        split at he
                        · cases he
                        · rename_i old hold
                          rcases hh with hh | ⟨δ, E, hm, h2, h3, h4⟩
                          · rw [hb] at hh; cases hh
                          · subst e3
                            obtain ⟨cc, hcc, hco⟩ := own_cells (P := P) s hb hm hold h2 hlc
                            have holdl : old.length = len * i.size := by
                              unfold getR at hold
                              split at hold
                              · rename_i hq; cases hold; exact hq
                              · cases hold
                            have hz2 : ∀ k, (Builtin.zeroCells zv.cells k).size = k * i.size := by
                              intro k
                              have := congrArg List.length (hzcl k)
                              rw [repL_length, hzl] at this
                              simpa using this
                            have hcs : c.size = mm * i.size := by simpa using hcl
                            have hccs : cc.size = len * i.size := by
                              have := hco.1; simp at this; omega
                            have big : ∀ nc, len + mm ≤ nc → VRelL m h (old ++ ns) ((cc ++ c ++ Builtin.zeroCells zv.cells (nc - (len + mm))).toList.take (old ++ ns).length) ∧
                                (old ++ ns).length ≤ (cc ++ c ++ Builtin.zeroCells zv.cells (nc - (len + mm))).size ∧ (cc ++ c ++ Builtin.zeroCells zv.cells (nc - (len + mm))).size = nc * i.size := by
                              intro nc hnc
                              have e5 : (old ++ ns).length = (cc.toList ++ c.toList).length := by simp; omega
                              refine ⟨?_, ?_, ?_⟩
                              · rw [e5, Array.toList_append, Array.toList_append, List.take_left]
                                exact hco.append hcr
                              · simp; omega
                              · simp [hz2, hcs, hccs]
                                rw [← Nat.add_mul, ← Nat.add_mul]; congr 1; omega
                            split at he
                            · rename_i hcl3
                              cases he
                              have hsz := hsz (by simp)
                              have hce : cap = len + cf / 3 / 1000000 := h3 (by omega)
                              obtain ⟨nc, hnc, hrun⟩ := append_grow (P := P) (w := w) (ty := ty) (n := mm) (c := c) (old := cc) h0 h1 a0 a1 hs hx hi hc2 happ (by omega) (by omega) hcc hzv
                              obtain ⟨b1, b2, b3⟩ := big nc hnc
                              refine ⟨_, _, _, hrun, grown_go (ty := elem) s hsz b1 b2, ?_⟩
                              refine .slice (.of hnc (by omega)) (.inr ⟨0, _, updM_self, .inl rfl, fun hh => by omega, fun _ => ?_⟩)
                              rw [show (3 * i.size + 1) / 3 = i.size from by omega, b3]
                              omega
                            · split at he
                              · rename_i hop
                                obtain ⟨hop1, hop2, hop3⟩ := hop
                                subst hop2
                                subst hop3
                                have hE : δ + off + cap * i.size = E := by
                                  have := h4 (by omega)
                                  rwa [show cf / 3 = i.size from by omega] at this
                                obtain ⟨carr, fr, g1, g2, g3, g4, g5⟩ := Sim.row (s := s) hb hm
                                dsimp only at g1 g2 g3 g4 g5
                                have hmul : (len + mm) * i.size = len * i.size + mm * i.size := Nat.add_mul _ _ _
                                have hmm0 : 0 < mm * i.size := Nat.mul_pos (Nat.pos_of_ne_zero h00) hpos
                                split at he
                                · rename_i hfit
                                  cases he
                                  have hcap : len + mm ≤ cap := by
                                    have h6 : (len + mm) * i.size ≤ cap * i.size := by omega
                                    exact Nat.le_of_mul_le_mul_right h6 hpos
                                  have hoff : off' = δ + off := by
                                    rcases h2 with h2 | h2
                                    · exact h2
                                    · omega
                                  subst hoff
                                  obtain ⟨w', hst, hgo⟩ := put_cells (P := P) (off := off + len * i.size) s hb hm hcr hns1 (by omega)
                                  refine ⟨.slice (some ⟨r, δ + off, none⟩) (len + mm) cap, w', m, ?_, hgo, ?_⟩
                                  · refine append_room (i := i) (c := c) (n := mm) h0 h1 a0 a1 hs hx hi hc2 happ hcap ?_
                                    simp only [addr_add]
                                    rw [show δ + off + len * i.size = δ + (off + len * i.size) from by omega]
                                    exact hst
                                  · exact .slice (.of hcap (by omega)) (.inr ⟨δ, E, hm, .inl rfl, fun hq => by omega, fun _ => by rw [show cf / 3 = i.size from by omega]; exact hE⟩)
                                · rename_i hfit
                                  cases he
                                  have hsz := hsz (by simp)
                                  have hbs : b ≠ sz := by intro e; subst e; rw [hb] at hsz; cases hsz
                                  by_cases hcap : len + mm ≤ cap
                                  · have hoff : off' = δ + off := by
                                      rcases h2 with h2 | h2
                                      · exact h2
                                      · omega
                                    subst hoff
                                    have hroomE : (len + mm) * i.size ≤ cap * i.size := Nat.mul_le_mul_right _ hcap
                                    have hone := ones_rel hcr hns1
                                    have hst := run_storeCells (P := P) (r := r) (off := δ + off + len * i.size) (ty := ty') (fr := fr) c.toList 0 carr w g1 (fun j hj => g5.1 rfl j (Nat.le_of_lt hj)) (by omega) hone
                                    refine ⟨.slice (some ⟨r, δ + off, none⟩) (len + mm) cap, _, updM m sz (r, δ + off, E), append_room (i := i) (c := c) (n := mm) h0 h1 a0 a1 hs hx hi hc2 happ hcap (by simp only [addr_add]; exact hst), ?_, ?_⟩
                                    · refine take_go (δ' := δ + off) s hb (by simp [rw?, hb]) hm hsz ?_
                                      intro m' h' l
                                      refine ⟨_, fr, wput_at g1, by simp; omega, by simp [putL_length]; omega, ?_, fun _ j hj => g5.1 rfl j (by simpa [putL_length] using hj), fun h => by cases h⟩
                                      intro j v v' q1 q2
                                      have q2' : (putL carr.toList (δ + off + len * i.size + 0) c.toList)[δ + off + j]? = some v' := by simpa using q2
                                      rw [putL_get] at q2'
                                      by_cases hj : j < old.length
                                      · rw [List.getElem?_append_left hj] at q1
                                        rw [if_neg (by omega)] at q2'
                                        have hold' := hold
                                        unfold getR at hold'
                                        split at hold'
                                        · cases hold'
                                          rw [List.getElem?_take, if_pos (by omega), List.getElem?_drop] at q1
                                          exact (g4 (off + j) v v' q1 (by rw [show δ + (off + j) = δ + off + j from by omega]; simpa using q2')).mono l
                                        · cases hold'
                                      · have hj2 : j < (old ++ ns).length := (List.getElem?_eq_some_iff.1 q1).1
                                        have hj3 : j < old.length + ns.length := by simpa using hj2
                                        rw [List.getElem?_append_right (by omega)] at q1
                                        rw [if_pos (by simp; omega)] at q2'
                                        rw [show δ + off + j - (δ + off + len * i.size + 0) = j - old.length from by omega] at q2'
                                        exact (hcr.2 _ _ _ q1 q2').mono l
                                    · refine .slice (.of hcap (by omega)) (.inr ⟨δ + off, E, updM_self, .inl rfl, fun hq => by omega, fun _ => ?_⟩)
                                      rw [show (3 * i.size + 1) / 3 = i.size from by omega]
                                      omega
                                  · obtain ⟨nc, hnc, hrun⟩ := append_grow (P := P) (w := w) (ty := ty) (n := mm) (c := c) (old := cc) h0 h1 a0 a1 hs hx hi hc2 happ (by omega) (by omega) hcc hzv
                                    obtain ⟨b1, b2, b3⟩ := big nc hnc
                                    have k := kill_go s hb hm
                                    refine ⟨_, _, _, hrun, k.trans (grown_go (ty := ty') k.sim (by rw [updH_ne (Ne.symm hbs)]; exact hsz) (b1.mono k.le) b2), ?_⟩
                                    refine .slice (.of hnc (by omega)) (.inr ⟨0, _, updM_self, .inl rfl, fun hh => by omega, fun _ => ?_⟩)
                                    rw [show (3 * i.size + 1) / 3 = i.size from by omega, b3]
                                    omega
                              · split at he
                                · rename_i hcl3 hnf hop
                                  obtain ⟨hop1, hop2, hfit⟩ := hop
                                  subst hop2
                                  cases he
                                  obtain ⟨carr, fr, g1, g2, g3, g4, g5⟩ := Sim.row (s := s) hb hm
                                  dsimp only at g1 g2 g3 g4 g5
                                  have hmul : (len + mm) * i.size = len * i.size + mm * i.size := Nat.add_mul _ _ _
                                  have hmm0 : 0 < mm * i.size := Nat.mul_pos (Nat.pos_of_ne_zero h00) hpos
                                  have hsp : mm ≤ cf / 3 / 1000000 := by
                                    rcases Nat.lt_or_ge (cf / 3 / 1000000) mm with h | h
                                    · exact absurd ⟨hop1, h⟩ hcl3
                                    · exact h
                                  have hce : cap = len + cf / 3 / 1000000 := h3 hop1
                                  have hcap : len + mm ≤ cap := by omega
                                  have hoff : off' = δ + off := by
                                    rcases h2 with h2 | h2
                                    · exact h2
                                    · omega
                                  subst hoff
                                  have hnew : cap = len + mm + 3 * (cf / 3 % 1000000 + 1000000 * (cf / 3 / 1000000 - mm)) / 3 / 1000000 := by
                                    rw [Nat.mul_div_cancel_left _ (by omega)]
                                    have : cf / 3 % 1000000 < 1000000 := Nat.mod_lt _ (by omega)
                                    rw [Nat.add_mul_div_left _ _ (by omega), Nat.div_eq_of_lt this]
                                    omega
                                  obtain ⟨w', hst, hgo⟩ := put_cells (P := P) (off := off + len * i.size) s hb hm hcr hns1 (by omega)
                                  refine ⟨.slice (some ⟨r, δ + off, none⟩) (len + mm) cap, w', m, ?_, hgo, ?_⟩
                                  · refine append_room (i := i) (c := c) (n := mm) h0 h1 a0 a1 hs hx hi hc2 happ hcap ?_
                                    simp only [addr_add]
                                    rw [show δ + off + len * i.size = δ + (off + len * i.size) from by omega]
                                    exact hst
                                  · exact .slice ⟨hcap, fun _ => hnew⟩ (.inr ⟨δ, E, hm, .inl rfl, fun _ => hnew, fun hq => by omega⟩)
                                · cases he
                      · cases he
                · cases he
    · cases he
  · cases he
end
end Go.Proofs.Ytbhmodlpolgklaa.AI
namespace Go.Proofs.Ytbhmodlpolgklaa.AI
open Go
variable [Inhabited Prop]
section
variable {P : Program} {w : World} {m : BM} {h : HG}
omit [Inhabited Prop] in
theorem arr0 {xs' : Array Value} {x : Value} {r : List Value} (rs : VRelL m h (x :: r) xs'.toList) : ∃ x', xs'[0]? = some x' ∧ VRel m h x x' := by
  obtain ⟨b, bs', e, h1, h2⟩ := rs.of_cons
  exact ⟨b, by have : xs'.toList[0]? = some b := by rw [e]; rfl
               simpa using this, h1⟩
omit [Inhabited Prop] in
theorem arr1 {xs' : Array Value} {x y : Value} {r : List Value} (rs : VRelL m h (x :: y :: r) xs'.toList) : ∃ x' y', xs'[0]? = some x' ∧ VRel m h x x' ∧ xs'[1]? = some y' ∧ VRel m h y y' := by
  obtain ⟨b, bs', e, h1, h2⟩ := rs.of_cons
  obtain ⟨c, cs', e2, h3, h4⟩ := h2.of_cons
  subst e2
  exact ⟨b, c, by have : xs'.toList[0]? = some b := by rw [e]; rfl
                  simpa using this, h1, by have : xs'.toList[1]? = some c := by rw [e]; rfl
                                           simpa using this, h3⟩
omit [Inhabited Prop] in
theorem typ0 {ts : Array TypeId} {t : TypeId} {r : List TypeId} (e : ts.toList = t :: r) : ts[0]? = some t := by
  have : ts.toList[0]? = some t := by rw [e]; rfl
  simpa using this
theorem Go1.other {m' : BM} {h' : HG} {w' w'' : World} (g : Go1 m h w m' h' w') (e : w''.heap = w'.heap) (e1 : w''.os = w'.os) (e2 : Tp w'' w') (e3 : w''.output = w'.output) : Go1 m h w m' h' w'' :=
  ⟨g.le, g.sim.heap e, by rw [e]; exact g.size, g.new, fun r hr hb => by rw [e]; exact g.frame r hr hb, g.un, g.idle, g.ex, g.rwb, e1.trans g.os, e2.trans g.tape, e3.trans g.output, g.newl⟩
theorem writes_same (s : Sim m h w) {sz : Nat} {v v' : Value} {r : Result Value} (hr : r = .ok v' w) (rv : VRel m h v v') : Writes P m h w sz [] v r :=
  ⟨v', w, m, hr, Go1.refl s, rv⟩
theorem writes_put {sz b : Nat} {o : Blk} {w' : World} {v v' : Value} {r : Result Value} (hr : r = .ok v' w') (g : Go1 m h w m (updH h b o) w') (rv : VRel m (updH h b o) v v') : Writes P m h w sz [.put b o] v r :=
  ⟨v', w', m, hr, g, rv⟩
theorem aCopy_sound (s : Sim m h w) {sz : Nat} {ts : Array TypeId} {ty : TypeId} {xs : List Value} {xs' : Array Value} {v : Value} {es : List Eff} (he : aCopy P h ts.toList xs = some (v, es)) (rs : VRelL m h xs xs'.toList) :
    Writes P m h w sz es v ((Builtin.copy_ ts ty xs').run P w) := by
  unfold aCopy at he
  split at he
  · rename_i dt tr d x xr hts
    have h0 := typ0 hts
    obtain ⟨d', x', a0, rd, a1, rx⟩ := arr1 rs
    split at he
    · rename_i elem hd
      split at he
      · rename_i size d0 dm base dlen c mm hsz hsl
        have hlen := fun w' => srcLen_sound (P := P) hsl rx w'
        split at he
        · cases he
        · rename_i ns hns
          obtain ⟨cc, hcc, hcr⟩ := srcCells_sound (P := P) s hns rx
          split at he
          · cases he
          · rename_i hc
            simp only [Bool.or_eq_true, Bool.not_eq_true', decide_eq_true_eq, not_or, Bool.not_eq_false, Decidable.not_not, bne_iff_ne, ne_eq, decide_not, decide_eq_false_iff_not] at hc
            obtain ⟨hc1, hc2⟩ := hc
            have hrun : ∀ (b' : Option Addr) (cap : Nat) (w' : World), d' = .slice b' dlen cap →
                (match b' with | some a => storeCells a cc.toList | none => pure () : Sem Unit).run P w = .ok () w' → (Builtin.copy_ ts ty xs').run P w = .ok (goInt (min mm dlen : Nat)) w' := by
              intro b' cap w' e hst
              have hmin : Nat.min mm dlen = min mm dlen := rfl
              unfold Builtin.copy_
              simp only [h0, a0, a1, Sem.run_bind, run_under hd, Result.andThen_ok, e, hlen, run_size hsz, hcc w rfl, hmin]
              cases b' with
              | none => simp at hst; subst hst; simp
              | some a => simp only at hst; simp [hst]
            split at he
            · obtain ⟨rfl, rfl, rfl⟩ := rd.of_nilslice
              split at he
              · rename_i hz
                cases he
                refine writes_same s (hrun none 0 w rfl rfl) ?_
                rw [hz]; exact .flat rfl
              · cases he
            · rename_i a
              obtain ⟨b, off, r, off', cap, rfl, rfl, hlc, hh⟩ := rd.of_slice
              split at he
              · rename_i hz
                cases he
                refine writes_same s (hrun _ cap w rfl ?_) (by rw [hz]; exact .flat rfl)
                have : cc.toList = [] := by apply List.eq_nil_of_length_eq_zero; rw [← hcr.1, hc2, hz, Nat.zero_mul]
                simp only [this, storeCells, Sem.run_pure]
              · rename_i hz
                split at he
                · rename_i ty' cs hb
                  dsimp only at hb he
                  split at he
                  · rename_i hfit
                    cases he
                    rcases hh with hh | ⟨δ, E, hm, h2, _⟩
                    · rw [hb] at hh; cases hh
                    · have hoff : off' = δ + off := by
                        rcases h2 with h2 | h2
                        · exact h2
                        · omega
                      subst hoff
                      obtain ⟨w', hst, hgo⟩ := put_cells (P := P) (off := off) s hb hm hcr hc1 hfit
                      exact writes_put (hrun _ cap w' rfl hst) hgo (.flat rfl)
                  · cases he
                · cases he
      · cases he
    · cases he
  · cases he
theorem aClear_sound (s : Sim m h w) {sz : Nat} {ts : Array TypeId} {ty : TypeId} {xs : List Value} {xs' : Array Value} {v : Value} {es : List Eff} (he : aClear P h ts.toList xs = some (v, es)) (rs : VRelL m h xs xs'.toList) :
    Writes P m h w sz es v ((Builtin.clear_ ts ty xs').run P w) := by
  unfold aClear at he
  split at he
  · rename_i t tr x xr hts
    have h0 := typ0 hts
    obtain ⟨x', a0, rx⟩ := arr0 rs
    split at he
    · rename_i elem hu
      cases he
      obtain rfl := rx.of_flat rfl
      refine writes_same s ?_ VRel.undef
      simp only [Builtin.clear_, h0, a0, Sem.run_bind, run_under hu, Result.andThen_ok, Sem.run_pure]
      rfl
    · rename_i elem a len c hu
      obtain ⟨b, off, r, off', cap, rfl, rfl, hlc, hh⟩ := rx.of_slice
      split at he
      · rename_i hz
        cases he
        subst hz
        refine writes_same s ?_ VRel.undef
        simp only [Builtin.clear_, h0, a0, Sem.run_bind, run_under hu, Result.andThen_ok, Sem.run_pure]
        rfl
      · rename_i hz
        split at he
        · rename_i zero ty' cs hzt hb
          dsimp only at hb he
          split at he
          · rename_i hfit
            cases he
            rcases hh with hh | ⟨δ, E, hm, h2, _⟩
            · rw [hb] at hh; cases hh
            · have hoff : off' = δ + off := by
                rcases h2 with h2 | h2
                · exact h2
                · omega
              subst hoff
              obtain ⟨zv, hzv, hzc, hzf⟩ := run_zeroW (P := P) hzt
              have hcz : VRelL m h (repL zero len) (Builtin.zeroCells zv.cells len).toList := by
                have : (Builtin.zeroCells zv.cells len).toList = repL zero len := by
                  unfold Builtin.zeroCells
                  by_cases h00 : 0 < zv.cells.size
                  · rw [range_zero _ _ (.inr h00), cells_toList, hzc]
                  · have e0 : zv.cells.size = 0 := by omega
                    rw [range_zero _ _ (.inl (by rw [e0, Nat.mul_zero])), cells_toList, hzc]
                rw [this]; exact VRelL.flats (repL_flat hzf _)
              have hones : (repL zero len).all isOne = true := by
                have h3 := repL_flat hzf len
                rw [List.all_eq_true] at h3 ⊢
                intro q hq
                have := h3 q hq
                cases q <;> first | rfl | (simp [AI.flat] at this)
              obtain ⟨w', hst, hgo⟩ := put_cells (P := P) (off := off) s hb hm hcz hones hfit
              refine writes_put (v' := .tuple #[]) ?_ hgo VRel.undef
              obtain ⟨n, rfl⟩ : ∃ n, len = n + 1 := ⟨len - 1, by omega⟩
              simp only [Builtin.clear_, h0, a0, Sem.run_bind, run_under hu, Result.andThen_ok, hzv, hst, Sem.run_pure]
          · cases he
        · cases he
    · cases he
  · cases he
omit [Inhabited Prop] in
theorem setE_set : ∀ (es : List (Value × Value × Nat)) (i : Nat) (x : Value × Value × Nat), setE es i x = es.set i x
  | [], _, _ => rfl
  | _ :: _, 0, _ => rfl
  | e :: es, i + 1, x => by simp [setE, setE_set es i x]
omit [Inhabited Prop] in
theorem dropE_erase : ∀ (es : List (Value × Value × Nat)) (i : Nat), dropE es i = es.eraseIdx i
  | [], _ => rfl
  | _ :: _, 0 => rfl
  | e :: es, i + 1 => by simp [dropE, dropE_erase es i]
omit [Inhabited Prop] in
theorem bornE_get : ∀ (es : List (Value × Value × Nat)) (i : Nat) (e : Value × Value × Nat), es[i]? = some e → bornE es i = e.2.2
  | [], _, _, he => by simp at he
  | _ :: _, 0, _, he => by simp at he; subst he; rfl
  | _ :: es, i + 1, e, he => by simpa [bornE] using bornE_get es i e (by simpa using he)
omit [Inhabited Prop] in
theorem ERel.set {es : List (Value × Value × Nat)} {fs : Array MapEntry} (r : ERel m h es fs) {i : Nat} {x : Value × Value × Nat} {f : MapEntry → MapEntry}
    (hx : ∀ e g, es[i]? = some e → fs[i]? = some g → AI.flat x.1 = true ∧ (f g).key = x.1 ∧ VRel m h x.2.1 (f g).val ∧ (f g).born = x.2.2) : ERel m h (setE es i x) (fs.modify i f) := by
  rw [setE_set]
  refine ⟨by simp [r.1], fun j e g h1 h2 => ?_⟩
  rw [Array.getElem?_modify] at h2
  by_cases hij : i = j
  · subst hij
    simp only [if_true, Option.map_eq_some_iff] at h2
    obtain ⟨g0, hg0, rfl⟩ := h2
    have hi : i < es.length := by
      rcases Nat.lt_or_ge i es.length with q | q
      · exact q
      · rw [List.getElem?_eq_none (by simpa using q)] at h1; cases h1
    rw [List.getElem?_set_self hi] at h1
    cases h1
    exact hx es[i] g0 (List.getElem?_eq_getElem hi) hg0
  · rw [if_neg hij] at h2
    rw [List.getElem?_set_ne hij] at h1
    exact r.2 j e g h1 h2
omit [Inhabited Prop] in
theorem ERel.push {es : List (Value × Value × Nat)} {fs : Array MapEntry} (r : ERel m h es fs) {x : Value × Value × Nat} {f : MapEntry}
    (hx : AI.flat x.1 = true ∧ f.key = x.1 ∧ VRel m h x.2.1 f.val ∧ f.born = x.2.2) : ERel m h (es ++ [x]) (fs.push f) := by
  refine ⟨by simp [r.1], fun j e g h1 h2 => ?_⟩
  rw [Array.getElem?_push] at h2
  by_cases hj : j = fs.size
  · subst hj
    rw [if_pos rfl] at h2
    cases h2
    rw [← r.1] at h1
    simp at h1
    subst h1
    exact hx
  · rw [if_neg hj] at h2
    have hlt : j < fs.size := (Array.getElem?_eq_some_iff.1 h2).1
    rw [List.getElem?_append_left (by rw [r.1]; exact hlt)] at h1
    exact r.2 j e g h1 h2
omit [Inhabited Prop] in
theorem ERel.drop {es : List (Value × Value × Nat)} {fs : Array MapEntry} (r : ERel m h es fs) (i : Nat) (hi : i < es.length) : ERel m h (dropE es i) (fs.eraseIdxIfInBounds i) := by
  rw [dropE_erase]
  have hi' : i < fs.size := by rw [← r.1]; exact hi
  have e : (fs.eraseIdxIfInBounds i).toList = fs.toList.eraseIdx i := by
    unfold Array.eraseIdxIfInBounds
    rw [dif_pos hi', Array.toList_eraseIdx]
  refine ⟨?_, fun j x g h1 h2 => ?_⟩
  · have := congrArg List.length e
    rw [Array.length_toList] at this
    rw [this, List.length_eraseIdx_of_lt hi, List.length_eraseIdx_of_lt (by simpa using hi')]
    have := r.1
    simp only [Array.length_toList]; omega
  · have h2' : (fs.eraseIdxIfInBounds i).toList[j]? = some g := by rw [Array.getElem?_toList]; exact h2
    rw [e, List.getElem?_eraseIdx] at h2'
    rw [List.getElem?_eraseIdx] at h1
    split at h1
    · rename_i hj; rw [if_pos hj] at h2'; exact r.2 j x g h1 (by simpa using h2')
    · rename_i hj; rw [if_neg hj] at h2'; exact r.2 (j + 1) x g h1 (by simpa using h2')
omit [Inhabited Prop] in
theorem ERel.mono {m' : BM} {h' : HG} (l : Le m h m' h') {es : List (Value × Value × Nat)} {fs : Array MapEntry} (r : ERel m h es fs) : ERel m' h' es fs :=
  ⟨r.1, fun i e f h1 h2 => by
    obtain ⟨a, b, c, d⟩ := r.2 i e f h1 h2
    exact ⟨a, b, c.mono l, d⟩⟩
theorem put_map (s : Sim m h w) {b r : Nat} {y : Nat × Nat} {es es' : List (Value × Value × Nat)} {cl cl' : Nat} {fs' : Array MapEntry} (hb : h b = some (.map es cl false)) (hm : m b = some (r, y))
    (hr : ERel m (updH h b (.map es' cl' false)) es' fs') :
    Go1 m h w m (updH h b (.map es' cl' false)) (wput w r (.map fs' cl')) := by
  obtain ⟨fs, h1, h2⟩ := s.maps hb hm
  exact put_go (x := (r, y)) s hb hm (by simp [rw?, hb]) (by simp [rw?, updH_self]) ⟨fs', wput_at h1, hr⟩
omit [Inhabited Prop] in
theorem run_setMap {r : Nat} {fs fs' : Array MapEntry} {cl cl' : Nat} (hf : w.heap[r]? = some (.map fs cl)) : (setObj r (.map fs' cl')).run P w = .ok () (wput w r (.map fs' cl')) := by
  simp [setObj, Sem.run, hf]; rfl
omit [Inhabited Prop] in
theorem keyEq_eq {d : TypeDesc} {a b : Value} (hk : keyEq d a b = some true) : a = b ∧ AI.flat a = true := by
  unfold keyEq at hk
  split at hk
  · split at hk
    · rename_i e; subst e; simp at hk; subst hk; exact ⟨rfl, rfl⟩
    · cases hk
  · rename_i a b
    have e : a = b := by
      simp [strEq] at hk
      cases a; cases b; simp_all
    subst e; exact ⟨rfl, rfl⟩
  · simp at hk; subst hk; exact ⟨rfl, rfl⟩
  · cases hk
omit [Inhabited Prop] in
theorem run_keyStays {d : TypeDesc} {k e : Value} (hk : keyEq d k e = some true) (w' : World) : (Instr.keyThatStays e k).run P w' = .ok k w' := by
  have he := (keyEq_eq hk).1
  subst he
  unfold keyEq at hk
  have : Instr.sameBits 10000 k k = true := by
    split at hk
    · simp [Instr.sameBits]
    · rw [Instr.sameBits, ← strEq_beq]; simp [strEq]
    · simp [Instr.sameBits]
    · cases hk
  simp [Instr.keyThatStays, this]
omit [Inhabited Prop] in
theorem hit_entry {d : TypeDesc} {k v : Value} {es : List (Value × Value × Nat)} {fs : Array MapEntry} {i : Nat} (r : ERel m h es fs) (hf : findE d k es 0 = some (some (i, v))) :
    ∃ e f, es[i]? = some e ∧ fs[i]? = some f ∧ keyEq d k e.1 = some true ∧ v = e.2.1 ∧ f.key = e.1 ∧ VRel m h v f.val ∧ f.born = e.2.2 ∧ Instr.findNow d k fs.toList 0 = some (some (i, f.val)) := by
  obtain ⟨v', g1, g2, g3, g4, e, g5, g6, g7⟩ := findE_now hf r.list.1 r.list.2
  rw [Nat.sub_zero] at g5
  have hi : i < fs.size := by rw [← r.1]; omega
  obtain ⟨q1, q2, q3, q4⟩ := r.2 i e fs[i] g5 (Array.getElem?_eq_getElem hi)
  refine ⟨e, fs[i], g5, Array.getElem?_eq_getElem hi, g7, g6, q2, by rw [g6]; exact q3, q4, ?_⟩
  rw [g1]
  congr 2
  have hv : fs[i].val = v' := by
    have := findNow_val g1
    rw [Nat.sub_zero, Array.getElem?_toList, Array.getElem?_eq_getElem hi] at this
    simpa using this
  rw [hv]
where
  findNow_val : ∀ {d : TypeDesc} {k : Value} {fs : List MapEntry} {j i : Nat} {v : Value}, Instr.findNow d k fs j = some (some (i, v)) → (fs[i - j]?).map (·.val) = some v := by
    intro d k fs
    induction fs with
    | nil => intro j i v hh; simp [Instr.findNow] at hh
    | cons f fs ih =>
      intro j i v hh
      simp only [Instr.findNow] at hh
      split at hh
      · cases hh; simp
      · have h5 := ih hh
        have hle : j + 1 ≤ i := by
          rcases Nat.lt_or_ge i (j + 1) with q | q
          · exfalso
            have : ∀ {fs : List MapEntry} {j i : Nat} {v : Value}, Instr.findNow d k fs j = some (some (i, v)) → j ≤ i := by
              intro fs
              induction fs with
              | nil => intro j i v hh; simp [Instr.findNow] at hh
              | cons f fs ih2 =>
                intro j i v hh
                simp only [Instr.findNow] at hh
                split at hh
                · cases hh; exact Nat.le_refl _
                · have := ih2 hh; omega
                · cases hh
            have := this hh
            omega
          · exact q
        rw [show i - j = (i - (j + 1)) + 1 from by omega]
        simpa using h5
      · cases hh
theorem aUpdate_sound (s : Sim m h w) {t : TypeId} {x k v x' k' v' : Value} {es : List Eff} (he : aUpdate P h t x k v = some es) (rx : VRel m h x x') (rk : VRel m h k k') (rv : VRel m h v v') :
    ∃ b o w', es = [.put b o] ∧ (Instr.mapUpdate t x' k' v').run P w = .ok () w' ∧ Go1 m h w m (updH h b o) w' := by
  unfold aUpdate at he
  split at he
  · rename_i key elem b hu
    obtain ⟨r, rfl, hh⟩ := rx.of_map
    split at he
    · rename_i d es0 clock hk hb
      obtain ⟨hku, hck⟩ := keyKind_under hk
      rcases hh with hh | ⟨y, hm⟩
      · rw [hb] at hh; cases hh
      · obtain ⟨fs, h1, h2⟩ := s.maps hb hm
        split at he
        · cases he
        · rename_i i u hf
          cases he
          obtain ⟨e, f, g1, g2, g3, g4, g5, g6, g7, g8⟩ := hit_entry h2 hf
          obtain ⟨hke, hkf⟩ := keyEq_eq g3
          obtain rfl := rk.of_flat hkf
          refine ⟨_, _, _, rfl, ?_, put_map (fs' := fs.modify i fun e => { e with key := k', val := v' }) s hb hm ?_⟩
          · simp only [Instr.mapUpdate, Sem.run_bind, run_under hu, Result.andThen_ok, run_getMap h1, hck, run_findKey hku g8, g2, Option.map_some, Option.getD_some, g5, run_keyStays g3, run_setMap h1]
          · refine (h2.mono (le_put hb (by simp))).set fun e' g' q1 q2 => ⟨hkf, rfl, rv.mono (le_put hb (by simp)), ?_⟩
            rw [g1] at q1; cases q1
            rw [g2] at q2; cases q2
            rw [bornE_get _ _ _ g1]; exact g7
        · rename_i hf
          split at he
          · rename_i hkf
            cases he
            obtain rfl := rk.of_flat hkf
            have g1 := findE_now hf h2.list.1 h2.list.2
            refine ⟨_, _, _, rfl, ?_, put_map (fs' := fs.push { key := k', val := v', born := clock }) s hb hm ?_⟩
            · simp only [Instr.mapUpdate, Sem.run_bind, run_under hu, Result.andThen_ok, run_getMap h1, hck, run_findKey hku g1, run_setMap h1]
            · exact (h2.mono (le_put hb (by simp))).push ⟨hkf, rfl, rv.mono (le_put hb (by simp)), rfl⟩
          · cases he
    · cases he
  · cases he
omit [Inhabited Prop] in
theorem pair_rel {a b a' b' : Value} (r1 : VRel m h a a') (r2 : VRel m h b b') : VRel m h (.tuple #[a, b]) (.tuple #[a', b']) :=
  .tuple rfl (VRelL.toArray (asv := [a, b]) (bs := [a', b']) (.cons r1 (.cons r2 .nil))).2
theorem aEntry_sound (s : Sim m h w) {sz : Nat} {t : TypeId} {x k x' k' v : Value} {es : List Eff} (he : aEntry P h t x k = some (v, es)) (rx : VRel m h x x') (rk : VRel m h k k') :
    Writes P m h w sz es v ((Instr.mapEntry t x' k').run P w) := by
  unfold aEntry at he
  split at he
  · rename_i key elem b hu
    obtain ⟨r, rfl, hh⟩ := rx.of_map
    split at he
    · rename_i d es0 clock hk hb
      obtain ⟨hku, hck⟩ := keyKind_under hk
      rcases hh with hh | ⟨y, hm⟩
      · rw [hb] at hh; cases hh
      · obtain ⟨fs, h1, h2⟩ := s.maps hb hm
        split at he
        · cases he
        · rename_i i u hf
          cases he
          obtain ⟨e, f, g1, g2, g3, g4, g5, g6, g7, g8⟩ := hit_entry h2 hf
          obtain ⟨hke, hkf⟩ := keyEq_eq g3
          obtain rfl := rk.of_flat hkf
          have hle := le_put (m := m) (o' := .map (setE es0 i (k', u, bornE es0 i)) clock false) hb (by simp)
          refine writes_put ?_ (put_map (fs' := fs.modify i fun e => { e with key := k' }) s hb hm ?_) (pair_rel (g6.mono hle) (b' := goInt f.born) ?_)
          · simp only [Instr.mapEntry, Sem.run_bind, run_under hu, Result.andThen_ok, run_getMap h1, hck, run_findKey hku g8, g2, Option.map_some, Option.getD_some, g5, run_keyStays g3, run_setMap h1, Sem.run_pure]
          · refine (h2.mono hle).set fun e' g' q1 q2 => ?_
            rw [g1] at q1; cases q1
            rw [g2] at q2; cases q2
            exact ⟨hkf, rfl, g6.mono hle, by rw [bornE_get _ _ _ g1]; exact g7⟩
          · rw [bornE_get _ _ _ g1, g7]; exact .flat rfl
        · rename_i hf
          split at he
          · rename_i z hz
            split at he
            · rename_i hp
              cases he
              simp only [Bool.and_eq_true] at hp
              obtain rfl := rk.of_flat hp.1
              have g1 := findE_now hf h2.list.1 h2.list.2
              have hzz : VRel m h z z := VRel.plain hp.2
              have hle := le_put (m := m) (o' := .map (es0 ++ [(k', z, clock)]) (clock + 1) false) hb (by simp)
              refine writes_put ?_ (put_map (fs' := fs.push { key := k', val := z, born := clock }) s hb hm ?_) (pair_rel (hzz.mono hle) (b' := goInt clock) (.flat rfl))
              · simp only [Instr.mapEntry, Sem.run_bind, run_under hu, Result.andThen_ok, run_getMap h1, hck, run_findKey hku g1, run_zeroP hz, run_setMap h1, Sem.run_pure]
              · exact (h2.mono hle).push ⟨hp.1, rfl, hzz.mono hle, rfl⟩
            · cases he
          · cases he
    · cases he
  · cases he
omit [Inhabited Prop] in
theorem stampE_find {b : Int} : ∀ {es : List (Value × Value × Nat)} {fs : List MapEntry} {i j : Nat} {k : Value}, stampE b es i = some (j, k) → es.length = fs.length →
    (∀ (i : Nat) (e : Value × Value × Nat) (f : MapEntry), es[i]? = some e → fs[i]? = some f → AI.flat e.1 = true ∧ f.key = e.1 ∧ VRel m h e.2.1 f.val ∧ f.born = e.2.2) →
    ∃ j', j = i + j' ∧ fs.findIdx? (fun e => (e.born : Int) == b) = some j' ∧ ∃ e, es[j']? = some e ∧ k = e.1
  | [], fs, i, j, k, he, hl, hr => by simp [stampE] at he
  | e :: es, [], i, j, k, he, hl, hr => by simp at hl
  | e :: es, f :: fs, i, j, k, he, hl, hr => by
    obtain ⟨h1, h2, h3, h4⟩ := hr 0 e f rfl rfl
    simp only [stampE] at he
    split at he
    · rename_i hq
      cases he
      refine ⟨0, rfl, ?_, e, rfl, rfl⟩
      simp only [List.findIdx?_cons, h4, hq, if_true]
    · rename_i hq
      obtain ⟨j', g1, g2, e', g3, g4⟩ := stampE_find he (by simpa using hl) (fun i e f a b => hr (i + 1) e f (by simpa using a) (by simpa using b))
      refine ⟨j' + 1, by omega, ?_, e', by simpa using g3, g4⟩
      simp only [List.findIdx?_cons, h4]
      simp only [hq, g2]
      rfl
theorem aEntryStore_sound (s : Sim m h w) {t : TypeId} {x k v x' k' v' : Value} {es : List Eff} (he : aEntryStore h x k v = some es) (rx : VRel m h x x') (rk : VRel m h k k') (rv : VRel m h v v') :
    ∃ b o w', es = [.put b o] ∧ (Instr.entryStore t x' k' v').run P w = .ok () w' ∧ Go1 m h w m (updH h b o) w' := by
  unfold aEntryStore at he
  split at he
  · rename_i b kd st
    obtain ⟨r, rfl, hh⟩ := rx.of_map
    obtain rfl := rk.of_int
    split at he
    · rename_i es0 clock hb
      rcases hh with hh | ⟨y, hm⟩
      · rw [hb] at hh; cases hh
      · obtain ⟨fs, h1, h2⟩ := s.maps hb hm
        split at he
        · rename_i i key hst
          cases he
          obtain ⟨j', g1, g2, e, g3, g4⟩ := stampE_find hst h2.list.1 h2.list.2
          rw [Nat.zero_add] at g1; subst g1
          refine ⟨_, _, _, rfl, ?_, put_map (fs' := fs.modify i fun e => { e with val := v' }) s hb hm ?_⟩
          · have g2' : fs.findIdx? (fun e => (e.born : Int) == st) = some i := by
              rw [← g2]
              cases fs; simp
            simp only [Instr.entryStore, Sem.run_bind, Sem.run_pure, run_getMap h1, Result.andThen_ok, asInt, asIntOf, g2', run_setMap h1]
          · have hle := le_put (m := m) (o' := .map (setE es0 i (key, v, bornE es0 i)) clock false) hb (by simp)
            refine (h2.mono hle).set fun e' g' q1 q2 => ?_
            obtain ⟨p1, p2, p3, p4⟩ := h2.2 i e' g' q1 q2
            rw [g3] at q1; cases q1
            subst g4
            exact ⟨p1, p2, rv.mono hle, by rw [bornE_get _ _ _ g3]; exact p4⟩
        · cases he
    · cases he
  · cases he
theorem aDelete_sound (s : Sim m h w) {sz : Nat} {ts : Array TypeId} {ty : TypeId} {xs : List Value} {xs' : Array Value} {v : Value} {es : List Eff} (he : aDelete P h ts.toList xs = some (v, es)) (rs : VRelL m h xs xs'.toList) :
    Writes P m h w sz es v ((Builtin.delete_ ts ty xs').run P w) := by
  unfold aDelete at he
  split at he
  · rename_i t tr x k xr hts
    have h0 := typ0 hts
    obtain ⟨x', k', a0, rx, a1, rk⟩ := arr1 rs
    split at he
    · rename_i key elem hu
      split at he
      · rename_i d hk
        split at he
        · rename_i hkf
          cases he
          obtain ⟨hku, hck⟩ := keyKind_under hk
          obtain rfl := rx.of_flat rfl
          refine writes_same s ?_ VRel.undef
          simp only [Builtin.delete_, h0, a0, a1, Sem.run_bind, run_under hu, Result.andThen_ok, hck, Sem.run_pure]
          rfl
        · cases he
      · rename_i d b hk
        obtain ⟨hku, hck⟩ := keyKind_under hk
        obtain ⟨r, rfl, hh⟩ := rx.of_map
        split at he
        · rename_i es0 clock hb
          rcases hh with hh | ⟨y, hm⟩
          · rw [hb] at hh; cases hh
          · obtain ⟨fs, h1, h2⟩ := s.maps hb hm
            split at he
            · cases he
            · rename_i i u hf
              cases he
              obtain ⟨e, f, g1, g2, g3, g4, g5, g6, g7, g8⟩ := hit_entry h2 hf
              obtain ⟨hke, hkf⟩ := keyEq_eq g3
              obtain rfl := rk.of_flat hkf
              refine writes_put (v' := .tuple #[]) ?_ (put_map (fs' := fs.eraseIdxIfInBounds i) s hb hm ?_) VRel.undef
              · simp only [Builtin.delete_, h0, a0, a1, Sem.run_bind, run_under hu, Result.andThen_ok, run_getMap h1, hck, run_findKey hku g8, run_setMap h1, Sem.run_pure]
              · exact (h2.mono (le_put hb (by simp))).drop i (List.getElem?_eq_some_iff.1 g1).1
            · rename_i hf
              split at he
              · rename_i hkf
                cases he
                obtain rfl := rk.of_flat hkf
                have g1 := findE_now hf h2.list.1 h2.list.2
                refine writes_same s ?_ VRel.undef
                simp only [Builtin.delete_, h0, a0, a1, Sem.run_bind, run_under hu, Result.andThen_ok, run_getMap h1, hck, run_findKey hku g1, run_setMap h1, Sem.run_pure, wput_same h1]
                rfl
              · cases he
        · cases he
      · cases he
    · cases he
  · cases he
theorem aStringToBytes_sound (s : Sim m h w) {sz : Nat} {src dst : TypeId} {x x' v : Value} {es : List Eff} (hsz : (∃ o, Eff.push o ∈ es) → h sz = none) (he : aStringToBytes P sz src dst x = some (v, es)) (rx : VRel m h x x') :
    Writes P m h w sz es v ((convert src dst x').run P w) := by
  cases he
def WritesN (P : Program) (m : BM) (h : HG) (w : World) (sz : Nat) (es : List Eff) (v : Value) (r : Result Next) : Prop :=
  ∃ w' m', Go1 m h w m' (effG h sz es) w' ∧ ((∃ v', r = .ok (.value v') w' ∧ VRel m' (effG h sz es) v v') ∨ (r = .ok .skip w' ∧ v = undef))
theorem Writes.next {sz : Nat} {es : List Eff} {v : Value} {s : Sem Value} (hl : Writes P m h w sz es v (s.run P w)) : WritesN P m h w sz es v ((do pure (.value (← s)) : Sem Next).run P w) := by
  obtain ⟨v', w', m', h1, h2, h3⟩ := hl
  exact ⟨w', m', h2, .inl ⟨v', by simp [h1], h3⟩⟩
theorem unit_next {sz b : Nat} {o : Blk} {w' : World} {s : Sem Unit} (h1 : s.run P w = .ok () w') (h2 : Go1 m h w m (updH h b o) w') : WritesN P m h w sz [.put b o] undef ((do s; pure .skip : Sem Next).run P w) :=
  ⟨w', m, h2, .inr ⟨by simp [h1], rfl⟩⟩
theorem opB_sound (s : Sim m h w) {ρ ρ' : Operand → Value} {o : Oper} {sz : Nat} {v : Value} {es : List Eff} (hsz : (∃ o, Eff.push o ∈ es) → h sz = none) (he : opB P ρ sz h o = some (v, es)) (hr : ∀ x ∈ o.op.operands.toList, VRel m h (ρ x) (ρ' x)) :
    WritesN P m h w sz es v ((execOp ρ' o).run P w) := by
  obtain ⟨dst, op, type, pos, after, guard⟩ := o
  unfold opB at he
  simp only at he hr
  split at he
  · rename_i t a x
    obtain ⟨z, hz, hvo⟩ := Option.map_eq_some_iff.1 he
    cases hvo
    obtain ⟨b, o, w', rfl, h1, h2⟩ := aStore_sound (P := P) s hz (hr a (by simp [Op.operands])) (hr x (by simp [Op.operands]))
    exact unit_next (s := Instr.storeAt t (ρ' a) (ρ' x)) h1 h2
  · rename_i t a k x
    obtain ⟨z, hz, hvo⟩ := Option.map_eq_some_iff.1 he
    cases hvo
    obtain ⟨b, o, w', rfl, h1, h2⟩ := aUpdate_sound (P := P) s hz (hr a (by simp [Op.operands])) (hr k (by simp [Op.operands])) (hr x (by simp [Op.operands]))
    exact unit_next (s := Instr.mapUpdate t (ρ' a) (ρ' k) (ρ' x)) h1 h2
  · rename_i t a k x
    obtain ⟨z, hz, hvo⟩ := Option.map_eq_some_iff.1 he
    cases hvo
    obtain ⟨b, o, w', rfl, h1, h2⟩ := aUpdate_sound (P := P) s hz (hr a (by simp [Op.operands])) (hr k (by simp [Op.operands])) (hr x (by simp [Op.operands]))
    exact unit_next (s := Instr.mapUpdate t (ρ' a) (ρ' k) (ρ' x)) h1 h2
  · rename_i t a k
    exact (aEntry_sound (P := P) s he (hr a (by simp [Op.operands])) (hr k (by simp [Op.operands]))).next
  · rename_i t a k x
    obtain ⟨z, hz, hvo⟩ := Option.map_eq_some_iff.1 he
    cases hvo
    obtain ⟨b, o, w', rfl, h1, h2⟩ := aEntryStore_sound (P := P) (t := t) s hz (hr a (by simp [Op.operands])) (hr k (by simp [Op.operands])) (hr x (by simp [Op.operands]))
    exact unit_next (s := Instr.entryStore t (ρ' a) (ρ' k) (ρ' x)) h1 h2
  · rename_i src dst x
    exact (aStringToBytes_sound (P := P) s hsz he (hr x (by simp [Op.operands]))).next
  · rename_i c
    have hargs : ∀ b, c.callee = .builtin b → VRelL m h (c.args.toList.map ρ) (c.args.map ρ').toList := by
      intro b hcal
      rw [Array.toList_map]
      exact VRelL.map fun x hx => hr x (by simp only [Op.operands, Call.operands, hcal, Array.toList_append, List.mem_append]; exact .inr hx)
    split at he
    · rename_i hcal
      have := (aAppend_sound (P := P) (ty := type) s hsz he (hargs _ hcal)).next
      simp only [execOp, resolve, hcal, Sem.run_bind, Sem.run_pure, Result.andThen_ok, invoke, builtin]
      simpa using this
    · rename_i hcal
      have := (aCopy_sound (P := P) (sz := sz) (ty := type) s he (hargs _ hcal)).next
      simp only [execOp, resolve, hcal, Sem.run_bind, Sem.run_pure, Result.andThen_ok, invoke, builtin]
      simpa using this
    · rename_i hcal
      have := (aClear_sound (P := P) (sz := sz) (ty := type) s he (hargs _ hcal)).next
      simp only [execOp, resolve, hcal, Sem.run_bind, Sem.run_pure, Result.andThen_ok, invoke, builtin]
      simpa using this
    · rename_i hcal
      have := (aDelete_sound (P := P) (sz := sz) (ty := type) s he (hargs _ hcal)).next
      simp only [execOp, resolve, hcal, Sem.run_bind, Sem.run_pure, Result.andThen_ok, invoke, builtin]
      simpa using this
    · cases he
  · cases he
end
end Go.Proofs.Ytbhmodlpolgklaa.AI
namespace Go.Proofs.Ytbhmodlpolgklaa.AI
open Go
variable [Inhabited Prop]
def Sub (g g' : HG) : Prop := ∀ b o, g b = some o → g' b = some o
def Puts (g : HG) (es : List Eff) : Prop := ∀ b o, Eff.put b o ∈ es → ∃ o', g b = some o'
section
variable {P : Program} {g g' : HG}
omit [Inhabited Prop] in
theorem puts_nil : Puts g [] := fun b o hm => by cases hm
omit [Inhabited Prop] in
theorem puts_one {b : Nat} {o o' : Blk} (h : g b = some o') : Puts g [.put b o] := fun c u hm => by
  simp at hm; obtain ⟨rfl, _⟩ := hm; exact ⟨o', h⟩
omit [Inhabited Prop] in
theorem puts_push {o : Blk} : Puts g [.push o] := fun c u hm => by simp at hm
omit [Inhabited Prop] in
theorem puts_two {b : Nat} {o u o' : Blk} (h : g b = some o') : Puts g [.put b o, .push u] := fun c q hm => by
  simp at hm; obtain ⟨rfl, _⟩ := hm; exact ⟨o', h⟩
omit [Inhabited Prop] in
theorem aLoad_mono (hs : Sub g g') {t : TypeId} {x v : Value} (he : aLoad P g t x = some v) : aLoad P g' t x = some v := by
  unfold aLoad at *
  split at he
  · split at he
    · rename_i hb; simp only [hs _ _ hb]; exact he
    · cases he
  · cases he
omit [Inhabited Prop] in
theorem aLookup_mono (hs : Sub g g') {t : TypeId} {x k v : Value} {ok : Bool} (he : aLookup P g t x k ok = some v) : aLookup P g' t x k ok = some v := by
  unfold aLookup at *
  split at he
  · split at he
    · rename_i hk hz
      try simp only [hk, hz]
      split at he
      · rename_i hp
        rw [if_pos hp]
        split at he
        · cases he
        · rename_i es hes
          cases x with
          | map a =>
            cases a with
            | none => exact (by cases hes; exact he)
            | some r =>
              dsimp only at hes ⊢
              split at hes
              · rename_i hb
                cases hes
                simp only [hs _ _ hb]
                exact he
              · cases hes
          | _ => cases hes
      · cases he
    · cases he
  · cases he
omit [Inhabited Prop] in
theorem aBytesToString_mono (hs : Sub g g') {src dst : TypeId} {x v : Value} (he : aBytesToString P g src dst x = some v) : aBytesToString P g' src dst x = some v := by
  unfold aBytesToString at *
  split at he
  · exact he
  · split at he
    · rename_i h1 hb; simp only [h1, hs _ _ hb]; exact he
    · cases he
  · cases he
omit [Inhabited Prop] in
theorem aUnsafe_mono (hs : Sub g g') {src dst : TypeId} {x v : Value} (he : aUnsafe P g src dst x = some v) : aUnsafe P g' src dst x = some v := by
  unfold aUnsafe at *
  split at he
  · exact he
  · split at he
    · rename_i hb ht; simp only [ht, hs _ _ hb]; exact he
    · cases he
  · exact he
  · cases he
omit [Inhabited Prop] in
theorem aLenMap_mono (hs : Sub g g') {t : TypeId} {x v : Value} (he : aLenMap P g t x = some v) : aLenMap P g' t x = some v := by
  unfold aLenMap at *
  split at he
  · split at he
    · rename_i hb; simp only [hs _ _ hb]; exact he
    · cases he
  · cases he
omit [Inhabited Prop] in
theorem opR_mono (hs : Sub g g') {ρ : Operand → Value} {o : Oper} {v : Value} (he : opR P ρ g o = some v) : opR P ρ g' o = some v := by
  unfold opR at *
  split at he
  · exact aLoad_mono hs he
  · exact aLookup_mono hs he
  · rename_i src dst x _
    split at he
    · rename_i u hu
      rw [aBytesToString_mono hs hu]; exact he
    · rename_i hu
      have hx := aUnsafe_mono hs he
      cases hb : aBytesToString P g' src dst (ρ x) with
      | none => simp only [hb]; exact hx
      | some u =>
        exfalso
        unfold aUnsafe at he
        unfold aBytesToString at hb
        split at he <;> split at hb <;> simp_all
  · split at he
    · rename_i h1 h2 h3
      try simp only [h1, h2, h3]
      exact aLenMap_mono hs he
    · cases he
  · cases he
omit [Inhabited Prop] in
theorem srcCells_mono (hs : Sub g g') {size n : Nat} {x : Value} {ns : List Value} (he : srcCells g size n x = some ns) : srcCells g' size n x = some ns := by
  unfold srcCells at *
  split at he
  · exact he
  · split at he
    · rename_i h0; rw [if_pos h0]; exact he
    · rename_i h0
      rw [if_neg h0]
      split at he
      · cases he
      · rename_i h1
        rw [if_neg h1]
        split at he
        · rename_i hb; simp only [hs _ _ hb]; exact he
        · cases he
  · exact he
  · exact he
  · cases he
omit [Inhabited Prop] in
theorem aSrc_mono (hs : Sub g g') {size : Nat} {zero : List Value} {xd : TypeDesc} {x : Value} {r : List Value × Nat} (he : aSrc P g size zero xd x = some r) : aSrc P g' size zero xd x = some r := by
  unfold aSrc at *
  split at he
  · exact he
  · split at he
    · cases he
    · rename_i h1
      obtain ⟨ns, h2, h3⟩ := Option.map_eq_some_iff.1 he
      try simp only [h1, srcCells_mono hs h2]
      exact congrArg some h3
omit [Inhabited Prop] in
theorem aStore_mono (hs : Sub g g') {t : TypeId} {x v : Value} {es : List Eff} (he : aStore P g t x v = some es) : aStore P g' t x v = some es ∧ Puts g es := by
  unfold aStore at *
  split at he
  · split at he
    · rename_i hb
      try simp only [hs _ _ hb]
      refine ⟨he, ?_⟩
      split at he
      · split at he
        · cases he; exact puts_one hb
        · cases he
      · cases he
    · cases he
  · cases he
omit [Inhabited Prop] in
theorem aUpdate_mono (hs : Sub g g') {t : TypeId} {x k v : Value} {es : List Eff} (he : aUpdate P g t x k v = some es) : aUpdate P g' t x k v = some es ∧ Puts g es := by
  unfold aUpdate at *
  split at he
  · split at he
    · rename_i hk hb
      try simp only [hk, hs _ _ hb]
      refine ⟨he, ?_⟩
      split at he
      · cases he
      · cases he; exact puts_one hb
      · split at he
        · cases he; exact puts_one hb
        · cases he
    · cases he
  · cases he
omit [Inhabited Prop] in
theorem aEntry_mono (hs : Sub g g') {t : TypeId} {x k : Value} {r : Value × List Eff} (he : aEntry P g t x k = some r) : aEntry P g' t x k = some r ∧ Puts g r.2 := by
  unfold aEntry at *
  split at he
  · split at he
    · rename_i hk hb
      try simp only [hk, hs _ _ hb]
      refine ⟨he, ?_⟩
      split at he
      · cases he
      · cases he; exact puts_one hb
      · split at he
        · split at he
          · cases he; exact puts_one hb
          · cases he
        · cases he
    · cases he
  · cases he
omit [Inhabited Prop] in
theorem aEntryStore_mono (hs : Sub g g') {x k v : Value} {es : List Eff} (he : aEntryStore g x k v = some es) : aEntryStore g' x k v = some es ∧ Puts g es := by
  unfold aEntryStore at *
  split at he
  · split at he
    · rename_i hb
      try simp only [hs _ _ hb]
      refine ⟨he, ?_⟩
      split at he
      · cases he; exact puts_one hb
      · cases he
    · cases he
  · cases he
omit [Inhabited Prop] in
theorem aDelete_mono (hs : Sub g g') {ts : List TypeId} {xs : List Value} {r : Value × List Eff} (he : aDelete P g ts xs = some r) : aDelete P g' ts xs = some r ∧ Puts g r.2 := by
  unfold aDelete at *
  split at he
  · split at he
    · split at he
      · rename_i hk
        try simp only [hk]
        refine ⟨he, ?_⟩
        split at he
        · cases he; exact puts_nil
        · cases he
      · rename_i hk
        split at he
        · rename_i hb
          try simp only [hk, hs _ _ hb]
          refine ⟨he, ?_⟩
          split at he
          · cases he
          · cases he; exact puts_one hb
          · split at he
            · cases he; exact puts_nil
            · cases he
        · cases he
      · cases he
    · cases he
  · cases he
omit [Inhabited Prop] in
theorem aClear_mono (hs : Sub g g') {ts : List TypeId} {xs : List Value} {r : Value × List Eff} (he : aClear P g ts xs = some r) : aClear P g' ts xs = some r ∧ Puts g r.2 := by
  unfold aClear at *
  split at he
  · split at he
    · refine ⟨he, ?_⟩
      cases he; exact puts_nil
    · split at he
      · rename_i h0
        rw [if_pos h0]
        refine ⟨he, ?_⟩
        cases he; exact puts_nil
      · rename_i h0
        rw [if_neg h0]
        split at he
        · rename_i hz hb
          try simp only [hz, hs _ _ hb]
          refine ⟨he, ?_⟩
          split at he
          · cases he; exact puts_one hb
          · cases he
        · cases he
    · cases he
  · cases he
omit [Inhabited Prop] in
theorem aCopy_mono (hs : Sub g g') {ts : List TypeId} {xs : List Value} {r : Value × List Eff} (he : aCopy P g ts xs = some r) : aCopy P g' ts xs = some r ∧ Puts g r.2 := by
  unfold aCopy at *
  split at he
  · split at he
    · split at he
      · rename_i h1 h2
        split at he
        · cases he
        · rename_i ns hns
          try simp only [h1, h2, srcCells_mono hs hns]
          split at he
          · cases he
          · rename_i hc
            rw [if_neg hc]
            split at he
            · refine ⟨he, ?_⟩
              split at he
              · cases he; exact puts_nil
              · cases he
            · split at he
              · rename_i h0
                rw [if_pos h0]
                refine ⟨he, ?_⟩
                cases he; exact puts_nil
              · rename_i h0
                rw [if_neg h0]
                split at he
                · rename_i hb
                  try simp only [hs _ _ hb]
                  refine ⟨he, ?_⟩
                  split at he
                  · cases he; exact puts_one hb
                  · cases he
                · cases he
      · cases he
    · cases he
  · cases he
omit [Inhabited Prop] in
theorem aAppend_mono (hs : Sub g g') {sz : Nat} {ts : List TypeId} {xs : List Value} {r : Value × List Eff} (he : aAppend P g sz ts xs = some r) : aAppend P g' sz ts xs = some r ∧ Puts g r.2 := by
  unfold aAppend at *
  split at he
  · split at he
    · rename_i h1 h2
      try simp only [h1, h2]
      split at he
      · cases he
      · rename_i h3
        try simp only [h3]
        split at he
        · cases he
        · rename_i h4
          try simp only [h4]
          split at he
          · cases he
          · rename_i hc
            rw [if_neg hc]
            split at he
            · cases he
            · rename_i ns m hsrc
              try simp only [aSrc_mono hs hsrc]
              split at he
              · cases he
              · rename_i hn
                rw [if_neg hn]
                split at he
                · refine ⟨he, ?_⟩
                  split at he
                  · cases he; exact puts_nil
                  · split at he
                    · cases he
                    · cases he; exact puts_push
                · split at he
                  · rename_i h0
                    rw [if_pos h0]
                    refine ⟨he, ?_⟩
                    cases he; exact puts_nil
                  · rename_i h0
                    rw [if_neg h0]
                    split at he
                    · cases he
                    · rename_i h5
                      rw [if_neg h5]
                      split at he
                      · rename_i hb
                        try simp only [hs _ _ hb]
                        split at he
                        · cases he
                        · rename_i hr
                          try simp only [hr]
                          refine ⟨he, ?_⟩
                          split at he
                          · cases he; exact puts_push
                          · split at he
                            · split at he
                              · cases he; exact puts_one hb
                              · cases he; exact puts_two hb
                            · split at he
                              · cases he; exact puts_one hb
                              · cases he
                      · cases he
                · cases he
    · cases he
  · cases he
omit [Inhabited Prop] in
theorem aStringToBytes_puts {sz : Nat} {src dst : TypeId} {x : Value} {r : Value × List Eff} (he : aStringToBytes P sz src dst x = some r) : Puts g r.2 := by
  cases he
omit [Inhabited Prop] in
theorem opB_mono (hs : Sub g g') {ρ : Operand → Value} {o : Oper} {sz : Nat} {r : Value × List Eff} (he : opB P ρ sz g o = some r) : opB P ρ sz g' o = some r ∧ Puts g r.2 := by
  unfold opB at *
  split at he
  · obtain ⟨z, hz, hvo⟩ := Option.map_eq_some_iff.1 he
    cases hvo
    obtain ⟨h1, h2⟩ := aStore_mono hs hz
    exact ⟨by simp only [h1]; rfl, h2⟩
  · obtain ⟨z, hz, hvo⟩ := Option.map_eq_some_iff.1 he
    cases hvo
    obtain ⟨h1, h2⟩ := aUpdate_mono hs hz
    exact ⟨by simp only [h1]; rfl, h2⟩
  · obtain ⟨z, hz, hvo⟩ := Option.map_eq_some_iff.1 he
    cases hvo
    obtain ⟨h1, h2⟩ := aUpdate_mono hs hz
    exact ⟨by simp only [h1]; rfl, h2⟩
  · exact aEntry_mono hs he
  · obtain ⟨z, hz, hvo⟩ := Option.map_eq_some_iff.1 he
    cases hvo
    obtain ⟨h1, h2⟩ := aEntryStore_mono hs hz
    exact ⟨by simp only [h1]; rfl, h2⟩
  · exact ⟨he, aStringToBytes_puts he⟩
  · split at he
    · rename_i hc; (try simp only [hc]); exact aAppend_mono hs he
    · rename_i hc; (try simp only [hc]); exact aCopy_mono hs he
    · rename_i hc; (try simp only [hc]); exact aClear_mono hs he
    · rename_i hc; (try simp only [hc]); exact aDelete_mono hs he
    · cases he
  · cases he
end
def Hp.ok (h : Hp) : Prop := ∀ b, h.sz ≤ b → h.get b = none
omit [Inhabited Prop] in
theorem Hp.ok.push {h : Hp} (k : h.ok) (o : Blk) : (h.push o).ok := fun b hb => by
  rw [Hp.get_push, if_neg (by have := Hp.sz_push h o; omega)]
  exact k b (by have := Hp.sz_push h o; omega)
omit [Inhabited Prop] in
theorem Hp.ok.put {h : Hp} (k : h.ok) {b : Nat} (o : Blk) (hb : b < h.sz) : (h.put b o).ok := fun c hc => by
  have : h.sz ≤ c := hc
  rw [Hp.get_put, if_neg (by omega)]
  exact k c this
omit [Inhabited Prop] in
theorem Hp.ok.lt {h : Hp} (k : h.ok) {b : Nat} {o : Blk} (hb : h.get b = some o) : b < h.sz := by
  rcases Nat.lt_or_ge b h.sz with q | q
  · exact q
  · rw [k b q] at hb; cases hb
omit [Inhabited Prop] in
theorem Hp.eff_sz : ∀ (es : List Eff) (h : Hp), h.sz ≤ (h.eff es).sz
  | [], h => Nat.le_refl _
  | .put b o :: es, h => Hp.eff_sz es (h.put b o)
  | .push o :: es, h => Nat.le_trans (Nat.le_succ _) (Hp.eff_sz es (h.push o))
omit [Inhabited Prop] in
theorem Hp.eff_push : ∀ (es : List Eff) (h : Hp), (∃ o, Eff.push o ∈ es) → h.sz < (h.eff es).sz
  | [], h, ⟨o, ho⟩ => by cases ho
  | .put b o :: es, h, ⟨u, hu⟩ => Hp.eff_push es (h.put b o) ⟨u, by simpa using hu⟩
  | .push o :: es, h, _ => Nat.lt_of_lt_of_le (Nat.lt_succ_self _) (Hp.eff_sz es (h.push o))
omit [Inhabited Prop] in
theorem Hp.ok.eff : ∀ (es : List Eff) {h : Hp}, h.ok → (∀ b o, Eff.put b o ∈ es → b < h.sz) → (h.eff es).ok
  | [], h, k, _ => k
  | .put b o :: es, h, k, hb => Hp.ok.eff es (k.put o (hb b o (.head _))) (fun c u hc => hb c u (.tail _ hc))
  | .push o :: es, h, k, hb => Hp.ok.eff es (k.push o) (fun c u hc => Nat.lt_succ_of_lt (hb c u (.tail _ hc)))
def ovr (hp : Hp) (h : HG) : HG := fun b => if b < hp.sz then hp.get b else h b
omit [Inhabited Prop] in
theorem ovr_self {hp : Hp} {h : HG} (e : ∀ b, b < hp.sz → h b = hp.get b) : ovr hp h = h := by
  funext b; unfold ovr
  split
  · rename_i hb; exact (e b hb).symm
  · rfl
omit [Inhabited Prop] in
theorem ovr_sub {hp : Hp} (k : hp.ok) (h : HG) : Sub hp.get (ovr hp h) := fun b o hb => by
  unfold ovr; rw [if_pos (k.lt hb)]; exact hb
omit [Inhabited Prop] in
theorem ovr_push {hp : Hp} {h : HG} {o : Blk} : updH (ovr hp h) hp.sz o = ovr (hp.push o) h := by
  funext b; unfold updH ovr
  rw [Hp.sz_push, Hp.get_push]
  by_cases e : b = hp.sz
  · subst e; simp
  · rw [if_neg e, if_neg e]
    by_cases e2 : b < hp.sz
    · rw [if_pos e2, if_pos (by omega)]
    · rw [if_neg e2, if_neg (by omega)]
omit [Inhabited Prop] in
theorem ovr_put {hp : Hp} {h : HG} {b : Nat} {o : Blk} (hb : b < hp.sz) : updH (ovr hp h) b o = ovr (hp.put b o) h := by
  funext c; unfold updH ovr
  rw [Hp.sz_put, Hp.get_put]
  by_cases e : c = b
  · subst e; simp [hb]
  · rw [if_neg e, if_neg e]
omit [Inhabited Prop] in
theorem ovr_eff : ∀ (es : List Eff) {hp : Hp} {h : HG}, (∀ b o, Eff.put b o ∈ es → b < hp.sz) → effG (ovr hp h) hp.sz es = ovr (hp.eff es) h
  | [], hp, h, _ => rfl
  | .put b o :: es, hp, h, hb => by
    show effG (updH (ovr hp h) b o) hp.sz es = _
    rw [ovr_put (hb b o (.head _))]
    exact ovr_eff es (hp := hp.put b o) (fun c u hc => hb c u (.tail _ hc))
  | .push o :: es, hp, h, hb => by
    show effG (updH (ovr hp h) hp.sz o) (hp.sz + 1) es = _
    rw [ovr_push]
    exact ovr_eff es (hp := hp.push o) (fun c u hc => Nat.lt_succ_of_lt (hb c u (.tail _ hc)))
end Go.Proofs.Ytbhmodlpolgklaa.AI
namespace Go.Proofs.Ytbhmodlpolgklaa.AI
open Go
variable [Inhabited Prop]
inductive DRel (m : BM) (h : HG) : List (FuncId × List Value) → List Deferred → Prop
  | nil : DRel m h [] []
  | cons {f : FuncId} {args : List Value} {d : Deferred} {cap : Array Value} {df : List (FuncId × List Value)} {ds : List Deferred} :
      d.target = .fn (.func f) cap → VRelL m h args (d.args ++ cap).toList → DRel m h df ds → DRel m h ((f, args) :: df) (d :: ds)
omit [Inhabited Prop] in
theorem DRel.mono {m m' : BM} {h h' : HG} (l : Le m h m' h') {df : List (FuncId × List Value)} {ds : List Deferred} (r : DRel m h df ds) : DRel m' h' df ds := by
  induction r with
  | nil => exact .nil
  | cons h1 h2 _ ih => exact .cons h1 (h2.mono l) ih
def CallRun (P : Program) (f : FuncId) (args : Array Value) (w : World) (R : Value → World → Prop) : Prop :=
  (∃ v' w', (callFunc f args).run P w = .ok (.value v') w' ∧ R v' w') ∨
  ((callFunc f args).run P w = .ok (.enter f args) w ∧ Calls P f args w fun e w' => ∃ v', e = .returned v' ∧ R v' w')
def CallOk (P : Program) (call : CallF) : Prop :=
  ∀ f args hp v hp', call f args hp = some (v, hp') → hp.ok → hp'.ok ∧ hp.sz ≤ hp'.sz ∧
    ∀ m h w args', (∀ b, hp.sz ≤ b → b < hp'.sz → h b = none) → Sim m (ovr hp h) w → VRelL m (ovr hp h) args args'.toList →
      CallRun P f args' w fun v' w' => ∃ m', Go1 m (ovr hp h) w m' (ovr hp' h) w' ∧ VRel m' (ovr hp' h) v v'
section
variable {P : Program} {w : World} {m : BM} {h : HG}
omit [Inhabited Prop] in
theorem target_sound {ρ ρ' : Operand → Value} {c : Call} {f : FuncId} {args : List Value} {type : TypeId} (he : target ρ c = some (f, args)) (hr : ∀ x ∈ c.operands.toList, VRel m h (ρ x) (ρ' x)) :
    ∃ d cap, (∀ w, (resolve ρ' c type).run P w = .ok d w) ∧ d.target = .fn (.func f) cap ∧ VRelL m h args (d.args ++ cap).toList := by
  unfold target at he
  split at he
  · rename_i f0 hcal
    have hf := hr f0 (by simp [Call.operands, hcal])
    split at he
    · rename_i g first captured hfv
      cases he
      rw [hfv] at hf
      obtain ⟨a', c', hv, h1, h2⟩ := hf.of_func
      have hargs : VRelL m h (c.args.toList.map ρ) (c.args.map ρ').toList := by
        rw [Array.toList_map]
        exact VRelL.map fun x hx => hr x (by simp only [Call.operands, hcal, Array.toList_append, List.mem_append]; exact .inr hx)
      refine ⟨⟨.fn (.func f) c', a' ++ c.args.map ρ'⟩, c', fun w => ?_, rfl, ?_⟩
      · simp only [resolve, hcal, hv, Deferred.ofValue, Sem.run_pure]
      · simp only [Array.toList_append]
        exact (h1.toList.append hargs).append h2.toList
    · cases he
  · cases he
omit [Inhabited Prop] in
theorem run_callFunc {f : FuncId} {fn : Func} {args : Array Value} (hf : P.funcs[f]? = some fn) (hb : fn.body.isSome = true) (hn : (fn.name == "runtime.NumGoroutine") = false) : (callFunc f args).run P w = .ok (.enter f args) w := by
  have h1 : fn.body.isNone = false := by cases hq : fn.body <;> simp_all
  simp only [callFunc, Sem.run_bind, run_program, Result.andThen_ok, hf, hn, h1, Bool.false_eq_true, if_false, Sem.run_pure]
theorem mat_go {m0 : BM} {h0 : HG} {w0 : World} (g : Go1 m0 h0 w0 m h w) {sz : Nat} {o : Blk} {obj : Obj} {E : Nat} (hs : h sz = some o) (hm : m sz = none) (h0s : h0 sz = none)
    (hb : ∀ m' h', Le m h m' h' → BRel m' h' (w.alloc obj) (w.heap.size, 0, E) o) :
    Go1 m0 h0 w0 (updM m sz (w.heap.size, 0, E)) h (w.alloc obj) ∧ Le m h (updM m sz (w.heap.size, 0, E)) h := by
  have s := g.sim
  have l : Le m h (updM m sz (w.heap.size, 0, E)) h := by
    refine ⟨fun _ hd => hd, fun b y hb => .inr ?_, fun _ _ _ _ h => h⟩
    simp only [updM_at]
    by_cases e : b = sz
    · subst e; rw [hm] at hb; cases hb
    · rw [if_neg e]; exact hb
  have hold : ∀ k, k < w.heap.size → (w.alloc obj).heap[k]? = w.heap[k]? := fun k hk => by
    show (w.heap.push obj)[k]? = _
    rw [Array.getElem?_push, if_neg (by omega)]
  have hold2 : ∀ b x, b ≠ sz → updM m sz (w.heap.size, 0, E) b = some x → m b = some x := fun b x e hx => by simpa [updM, e] using hx
  refine ⟨⟨g.le.trans l, ⟨⟨?_, ?_⟩, fun r o t c q => (s.lit r o t c q).mono (fun _ _ _ _ h => h) (hold r (s.lit r o t c q).lt), fun r q b x hx hr => ?_⟩, Nat.le_trans g.size (by show _ ≤ (w.heap.push obj).size; simp), ?_, ?_, ?_, g.idle, g.ex, g.rwb, g.os, ⟨g.tape.eq, g.tape.dr⟩, g.output, g.newl⟩, l⟩
  · intro b x hx
    by_cases e : b = sz
    · subst e; simp [updM] at hx; subst hx
      exact ⟨o, hs, hb _ _ l⟩
    · have hx' := hold2 b x e hx
      obtain ⟨o', ho', hr⟩ := s.dom b x hx'
      refine ⟨o', ho', ?_⟩
      by_cases hd : o' = .dead
      · subst hd; trivial
      · refine hr.mono l (hold _ (s.lt hx' ?_))
        unfold live?; rw [ho']; cases o' <;> simp_all
  · intro b b' x x' hx hx' hr hl hxx
    by_cases e : b = sz <;> by_cases e' : b' = sz
    · rw [e, e']
    · subst e; simp [updM] at hx; subst hx
      have := s.lt (hold2 _ _ e' hx') hl
      simp at hxx; omega
    · subst e'; simp [updM] at hx'; subst hx'
      have := s.lt (hold2 _ _ e hx) (live_of_rw hr)
      simp at hxx; omega
    · exact s.inj b b' x x' (hold2 _ _ e hx) (hold2 _ _ e' hx') hr hl hxx
  · by_cases e : b = sz
    · subst e; simp [updM] at hx; subst hx
      obtain ⟨o', t, c, q⟩ := q
      have := (s.lit r o' t c q).lt
      simp; omega
    · exact s.ice r q b x (hold2 b x e hx) hr
  · intro b x hx
    by_cases e : b = sz
    · subst e; simp [updM] at hx; subst hx
      exact .inr (.inl g.size)
    · exact g.new b x (hold2 b x e hx)
  · intro r hr hh
    rw [hold r (Nat.lt_of_lt_of_le hr g.size)]
    exact g.frame r hr hh
  · intro b o' hb' hm'
    have e : b ≠ sz := by intro e; subst e; rw [h0s] at hb'; cases hb'
    simp only [updM_at]; rw [if_neg e]; exact g.un b o' hb' hm'
theorem step_sound {call : CallF} (hc : CallOk P call) {o : Oper} {st : St} {v : Value} {hp' : Hp} {df' : List (FuncId × List Value)} (he : aStep P call o st = some (v, hp', df')) (hok : st.hp.ok) :
    hp'.ok ∧ st.hp.sz ≤ hp'.sz ∧ ∀ (m : BM) (h : HG) (w : World) (a : Act), (∀ b, st.hp.sz ≤ b → b < hp'.sz → h b = none) → Sim m (ovr st.hp h) w →
      (∀ x ∈ o.op.operands.toList, VRel m (ovr st.hp h) (st.eval x) (a.eval x)) → DRel m (ovr st.hp h) st.df a.defers →
      ∀ (next : Act → World → Prop) (Q : Exit → Act → World → Prop),
        (∀ m' w' v' ds', Go1 m (ovr st.hp h) w m' (ovr hp' h) w' → VRel m' (ovr hp' h) v v' → DRel m' (ovr hp' h) df' ds' → next ({ a with defers := ds' }.put o.dst v') w') →
        o.wp P a w next Q := by
  unfold aStep at he
  split at he
  · -- without memory
    split at he
    · rename_i v0 hop
      cases he
      refine ⟨hok, Nat.le_refl _, fun m h w a hfr s hr hd next Q hn => ?_⟩
      obtain ⟨v', h1, h2⟩ : LaysN P m (ovr st.hp h) w st.hp.sz none v _ := opP_sound hop hr
      unfold Oper.wp
      rw [h1, Oper.upon_value]
      exact hn m w v' a.defers (Go1.refl s) h2 hd
    · rename_i v0 b hop
      cases he
      refine ⟨hok.push b, Nat.le_succ _, fun m h w a hfr s hr hd next Q hn => ?_⟩
      obtain ⟨v', obj, E, h1, h2, h3⟩ : LaysN P m (ovr st.hp h) w st.hp.sz (some b) v _ := opP_sound hop hr
      have hnone : ovr st.hp h st.hp.sz = none := by
        unfold ovr; rw [if_neg (Nat.lt_irrefl _)]
        exact hfr _ (Nat.le_refl _) (Nat.lt_succ_self _)
      have g := push_go (E := E) s hnone h3
      rw [ovr_push] at g h2
      unfold Oper.wp
      rw [h1, Oper.upon_value]
      exact hn _ _ v' a.defers g h2 (hd.mono g.le)
    · cases he
  · -- reads
    split at he
    · rename_i v0 hop
      cases he
      refine ⟨hok, Nat.le_refl _, fun m h w a hfr s hr hd next Q hn => ?_⟩
      obtain ⟨v', h1, h2⟩ := opR_sound s (opR_mono (ovr_sub hok h) hop) hr
      unfold Oper.wp
      rw [h1, Oper.upon_value]
      exact hn m w v' a.defers (Go1.refl s) h2 hd
    · cases he
  · -- all the rest
    split at he
    · rename_i v0 es hop
      cases he
      have hputs : ∀ b o, Eff.put b o ∈ es → b < st.hp.sz := fun b o hm => by
        obtain ⟨o', ho⟩ := (opB_mono (g' := st.hp.get) (fun _ _ hh => hh) hop).2 b o hm
        exact hok.lt ho
      refine ⟨hok.eff es hputs, Hp.eff_sz es _, fun m h w a hfr s hr hd next Q hn => ?_⟩
      have hnone : (∃ o, Eff.push o ∈ es) → ovr st.hp h st.hp.sz = none := fun hp => by
        unfold ovr; rw [if_neg (Nat.lt_irrefl _)]
        exact hfr _ (Nat.le_refl _) (Hp.eff_push es _ hp)
      obtain ⟨w', m', g, hh⟩ := opB_sound s hnone (opB_mono (ovr_sub hok h) hop).1 hr
      rw [ovr_eff es hputs] at g hh
      unfold Oper.wp
      rcases hh with ⟨v', h1, h2⟩ | ⟨h1, rfl⟩
      · rw [h1, Oper.upon_value]
        exact hn m' w' v' a.defers g h2 (hd.mono g.le)
      · rw [h1, Oper.upon_skip]
        exact hn m' w' undef a.defers g VRel.undef (hd.mono g.le)
    · split at he
      · rename_i c hoc
        split at he
        · rename_i f args ht
          split at he
          · rename_i v1 h1 hcall
            cases he
            obtain ⟨k1, k2, k3⟩ := hc f args st.hp v hp' hcall hok
            refine ⟨k1, k2, fun m h w a hfr s hr hd next Q hn => ?_⟩
            obtain ⟨d, cap, hres, htar, hargs⟩ := target_sound (P := P) (type := o.type) ht (fun x hx => hr x (by rw [hoc]; exact hx))
            have hrun : (execOp a.eval o).run P w = (callFunc f (d.args ++ cap)).run P w := by
              simp only [execOp, hoc, Sem.run_bind, hres, Result.andThen_ok, htar, invoke]
            unfold Oper.wp
            rw [hrun]
            rcases k3 m h w _ hfr s hargs with ⟨v', w', h2, m', g, h3⟩ | ⟨h2, h3⟩
            · rw [h2, Oper.upon_value]
              exact hn m' w' v' a.defers g h3 (hd.mono g.le)
            · rw [h2, Oper.upon_enter]
              refine h3.mono fun e w' hh => ?_
              obtain ⟨v', rfl, m', g, h4⟩ := hh
              exact hn m' w' v' a.defers g h4 (hd.mono g.le)
          · cases he
        · cases he
      · rename_i c hoc
        split at he
        · rename_i f args ht
          cases he
          refine ⟨hok, Nat.le_refl _, fun m h w a hfr s hr hd next Q hn => ?_⟩
          obtain ⟨d, cap, hres, htar, hargs⟩ := target_sound (P := P) (type := o.type) ht (fun x hx => hr x (by rw [hoc]; exact hx))
          have hrun : (execOp a.eval o).run P w = .ok (.defer d) w := by
            simp only [execOp, hoc, Sem.run_bind, hres, Result.andThen_ok, Sem.run_pure]
          unfold Oper.wp
          rw [hrun, Oper.upon_defer]
          exact hn m w undef (d :: a.defers) (Go1.refl s) VRel.undef (.cons htar hargs hd)
        · cases he
      · cases he
end
end Go.Proofs.Ytbhmodlpolgklaa.AI
namespace Go.Proofs.Ytbhmodlpolgklaa.AI
open Go
variable [Inhabited Prop]
structure TRel (n : Nat) (m : BM) (h : HG) (st : St) (a : Act) : Prop where
  size : a.tmps.size = n
  tm : ∀ t, VRel m h (st.tget t) (a.tmps.getD t undef)
omit [Inhabited Prop] in
theorem TRel.mono {n : Nat} {m m' : BM} {h h' : HG} (l : Le m h m' h') {st : St} {a : Act} (r : TRel n m h st a) : TRel n m' h' st a := ⟨r.size, fun t => (r.tm t).mono l⟩
omit [Inhabited Prop] in
theorem St.tget_put (s : St) (d : Option Tmp) (v : Value) (t : Tmp) : (s.tput d v).tget t = if d = some t then v else s.tget t := by
  cases d with
  | none => simp [St.tput]
  | some d =>
    simp only [St.tput, St.tget, Tr.get_set _ _ _ _ _ (Nat.lt_succ_self d)]
    by_cases e : t = d
    · subst e; simp
    · rw [if_neg e, if_neg (by simp; exact Ne.symm e)]
omit [Inhabited Prop] in
theorem Act.getD_put (a : Act) (d : Option Tmp) (v : Value) (t : Tmp) (hd : ∀ x, d = some x → x < a.tmps.size) : (a.put d v).tmps.getD t undef = if d = some t then v else a.tmps.getD t undef := by
  cases d with
  | none => simp [Act.put]
  | some d =>
    have := hd d rfl
    simp only [Act.put]
    by_cases e : d = t
    · subst e; simp [this]
    · rw [if_neg (by simp; exact e)]
      simp [Array.getElem?_setIfInBounds_ne e]
omit [Inhabited Prop] in
theorem Act.size_put (a : Act) (d : Option Tmp) (v : Value) : (a.put d v).tmps.size = a.tmps.size := by
  cases d <;> simp [Act.put]
omit [Inhabited Prop] in
theorem Act.defers_put (a : Act) (d : Option Tmp) (v : Value) : (a.put d v).defers = a.defers := by
  cases d <;> simp [Act.put]
omit [Inhabited Prop] in
theorem TRel.put {n : Nat} {m : BM} {h : HG} {st : St} {a : Act} (r : TRel n m h st a) {d : Option Tmp} {v v' : Value} (hd : ∀ x, d = some x → x < n) (hv : VRel m h v v') : TRel n m h (st.tput d v) (a.put d v') := by
  refine ⟨by rw [Act.size_put]; exact r.size, fun t => ?_⟩
  rw [St.tget_put, Act.getD_put _ _ _ _ (fun x hx => by rw [r.size]; exact hd x hx)]
  split
  · exact hv
  · exact r.tm t
omit [Inhabited Prop] in
theorem TRel.eval {n : Nat} {m : BM} {h : HG} {st : St} {a : Act} (r : TRel n m h st a) {x : Operand} (hx : okConst x = true) : VRel m h (st.eval x) (a.eval x) := by
  cases x with
  | tmp t => exact r.tm t
  | const v => exact VRel.plain hx
  | global g => cases hx
  | func f => exact VRel.fn f
omit [Inhabited Prop] in
theorem VRel.to_bool {m : BM} {h : HG} {v : Value} {b : Bool} (r : VRel m h v (.bool b)) : v = .bool b := by
  cases r with
  | flat => rfl
  | junk h1 => exact absurd rfl (h1 b)
omit [Inhabited Prop] in
theorem tget_bool {st : St} {t : Nat} {b : Bool} (h : st.tget t = .bool b) : st.tm.get t = some (.bool b) := by
  unfold St.tget at h
  cases hq : st.tm.get t with
  | none => rw [hq] at h; simp [undef] at h
  | some v => rw [hq] at h; simp at h; rw [h]
omit [Inhabited Prop] in
theorem wanted_iff {m : BM} {h : HG} {ops : Array Oper} {st : St} {a : Act} {o : Oper}
    (hr : ∀ j w t, o.guard = some (j, w) → (ops[j]?).bind (·.dst) = some t → VRel m h (st.tget t) (a.tmps.getD t undef)) :
    Region.wanted o (yielded ops a.tmps) = aWanted ops st o := by
  unfold Region.wanted aWanted
  cases hg : o.guard with
  | none => rfl
  | some jw =>
    obtain ⟨j, want⟩ := jw
    simp only
    unfold yielded
    cases ht : (ops[j]?).bind (·.dst) with
    | none => rfl
    | some t =>
      have r := hr j want t hg ht
      simp only [Option.bind_some]
      cases hq : a.tmps[t]? with
      | none =>
        have hu : a.tmps.getD t undef = undef := by simp [hq]
        rw [hu] at r
        cases hs : st.tm.get t with
        | none => rfl
        | some v =>
          have : st.tget t = v := by simp [St.tget, hs]
          rw [this] at r
          cases v with
          | bool b => have := r.of_bool; simp [undef] at this
          | _ => rfl
      | some u =>
        have hu : a.tmps.getD t undef = u := by simp [hq]
        rw [hu] at r
        cases u with
        | bool b =>
          have := tget_bool r.to_bool
          simp only [this]
          cases b <;> cases want <;> rfl
        | _ =>
          cases hs : st.tm.get t with
          | none => rfl
          | some v =>
            have : st.tget t = v := by simp [St.tget, hs]
            rw [this] at r
            cases v with
            | bool b => have := r.of_bool; cases this
            | _ => rfl
structure Rel (n : Nat) (m : BM) (h : HG) (w : World) (st : St) (a : Act) : Prop where
  sim : Sim m (ovr st.hp h) w
  tm : TRel n m (ovr st.hp h) st a
  df : DRel m (ovr st.hp h) st.df a.defers
theorem Rel.of_go {n : Nat} {m m' : BM} {h : HG} {w w' : World} {st : St} {a : Act} {hp' : Hp} {df' : List (FuncId × List Value)} {ds' : List Deferred} {d : Option Tmp} {v v' : Value}
    (r : Rel n m h w st a) (g : Go1 m (ovr st.hp h) w m' (ovr hp' h) w') (hv : VRel m' (ovr hp' h) v v') (hd : DRel m' (ovr hp' h) df' ds') (hb : ∀ x, d = some x → x < n) :
    Rel n m' h w' ({ st with hp := hp', df := df' }.tput d v) ({ a with defers := ds' }.put d v') := by
  have e1 : ({ st with hp := hp', df := df' }.tput d v : St).hp = hp' := by cases d <;> rfl
  have e2 : ({ st with hp := hp', df := df' }.tput d v : St).df = df' := by cases d <;> rfl
  refine ⟨by rw [e1]; exact g.sim, ?_, by rw [e1, e2, Act.defers_put]; exact hd⟩
  rw [e1]
  have t := r.tm.mono g.le
  exact TRel.put (st := { st with hp := hp', df := df' }) (a := { a with defers := ds' }) ⟨t.size, t.tm⟩ hb hv
omit [Inhabited Prop] in
theorem Rel.skip {n : Nat} {m : BM} {h : HG} {w : World} {st : St} {a : Act} {d : Option Tmp} (r : Rel n m h w st a) (hb : ∀ x, d = some x → x < n) : Rel n m h w (st.tput d undef) (a.put d undef) := by
  have e1 : (st.tput d undef : St).hp = st.hp := by cases d <;> rfl
  have e2 : (st.tput d undef : St).df = st.df := by cases d <;> rfl
  exact ⟨by rw [e1]; exact r.sim, by rw [e1]; exact r.tm.put hb VRel.undef, by rw [e1, e2, Act.defers_put]; exact r.df⟩
section
variable {P : Program}
omit [Inhabited Prop] in
theorem okOp_dst {n : Nat} {o : Oper} (h : okOp n o = true) : (∀ x, o.dst = some x → x < n) ∧ ∀ x ∈ o.op.operands.toList, okConst x = true := by
  unfold okOp at h
  simp only [Bool.and_eq_true, List.all_eq_true] at h
  refine ⟨fun x hx => ?_, h.2⟩
  have := h.1
  rw [hx] at this
  simpa using this
theorem runOps_ok {call : CallF} (hc : CallOk P call) {ops : Array Oper} : ∀ (os : List Oper) (st st' : St), runOps P call ops os st = some st' → st.hp.ok → st'.hp.ok ∧ st.hp.sz ≤ st'.hp.sz
  | [], st, st', he, hk => by cases he; exact ⟨hk, Nat.le_refl _⟩
  | o :: os, st, st', he, hk => by
    unfold runOps at he
    split at he
    · have := runOps_ok hc os _ st' he (by cases o.dst <;> exact hk)
      refine ⟨this.1, ?_⟩
      cases hd : o.dst <;> (rw [hd] at this; exact this.2)
    · split at he
      · rename_i v hp df hs
        obtain ⟨k1, k2, _⟩ := step_sound hc hs hk
        have := runOps_ok hc os _ st' he (by cases o.dst <;> exact k1)
        refine ⟨this.1, Nat.le_trans k2 ?_⟩
        cases hd : o.dst <;> (rw [hd] at this; exact this.2)
      · cases he
theorem runOps_sound {call : CallF} (hc : CallOk P call) {ops : Array Oper} {n : Nat} : ∀ (os : List Oper) (i : Nat) (st st' : St), ops.toList.drop i = os → (∀ o ∈ os, okOp n o = true) → runOps P call ops os st = some st' → st.hp.ok →
    ∀ (m : BM) (h : HG) (w : World) (a : Act), (∀ b, st.hp.sz ≤ b → b < st'.hp.sz → h b = none) → Rel n m h w st a →
    ∀ (Q : Exit → Act → World → Prop), (∀ m' w' a', Go1 m (ovr st.hp h) w m' (ovr st'.hp h) w' → Rel n m' h w' st' a' → Q .normal a' w') → wpOps P ops Q (List.range' i os.length) a w
  | [], i, st, st', hi, hok, he, hk, m, h, w, a, hf, r, Q, hQ => by
    cases he
    exact hQ m w a (Go1.refl r.sim) r
  | o :: os, i, st, st', hi, hok, he, hk, m, h, w, a, hf, r, Q, hQ => by
    have hio : ops[i]? = some o := by
      have : (ops.toList.drop i)[0]? = some o := by rw [hi]; rfl
      simpa using this
    have hi' : ops.toList.drop (i + 1) = os := by
      have := congrArg (List.drop 1) hi
      simpa [List.drop_drop, Nat.add_comm] using this
    obtain ⟨hb, hop⟩ := okOp_dst (hok o (.head _))
    have hwant : Region.wanted o (yielded ops a.tmps) = aWanted ops st o := wanted_iff fun j w t _ _ => r.tm.tm t
    rw [List.length_cons, List.range'_succ]
    simp only [wpOps, hio, hwant]
    unfold runOps at he
    split at he
    · rename_i hw
      rw [hw]
      simp only [Bool.false_eq_true, if_false]
      have e1 : (st.tput o.dst undef : St).hp = st.hp := by cases o.dst <;> rfl
      refine runOps_sound hc os (i + 1) _ st' hi' (fun o ho => hok o (.tail _ ho)) he (by rw [e1]; exact hk) m h w _ (by rw [e1]; exact hf) (r.skip hb) Q ?_
      rw [e1]
      exact hQ
    · rename_i hw
      rw [hw]
      simp only [if_true]
      split at he
      · rename_i v hp df hs
        obtain ⟨k1, k2, k3⟩ := step_sound hc hs hk
        have e1 : ({ st with hp := hp, df := df }.tput o.dst v : St).hp = hp := by cases o.dst <;> rfl
        have k4 := (runOps_ok hc os _ st' he (by rw [e1]; exact k1)).2
        rw [e1] at k4
        refine .inl (k3 m h w a (fun b h1 h2 => hf b h1 (Nat.lt_of_lt_of_le h2 k4)) r.sim (fun x hx => r.tm.eval (hop x hx)) r.df _ Q ?_)
        intro m' w' v' ds' g hv hd
        refine runOps_sound hc os (i + 1) _ st' hi' (fun o ho => hok o (.tail _ ho)) he (by rw [e1]; exact k1) m' h w' _ (by rw [e1]; exact fun b h1 h2 => hf b (Nat.le_trans k2 h1) h2) (r.of_go g hv hd hb) Q ?_
        rw [e1]
        intro m2 w2 a2 g2 r2
        exact hQ m2 w2 a2 (g.trans g2) r2
      · cases he
def RegionGoal (P : Program) (n : Nat) (id : Nat) (ops : Array Oper) (draw : Bool) (st st' : St) : Prop :=
  st'.hp.ok ∧ st.hp.sz ≤ st'.hp.sz ∧ ∀ (m : BM) (h : HG) (w : World) (a : Act), (∀ b, st.hp.sz ≤ b → b < st'.hp.sz → h b = none) → Rel n m h w st a →
    ∀ (Q : Exit → Act → World → Prop), (∀ m' w' a', Go1 m (ovr st.hp h) w m' (ovr st'.hp h) w' → Rel n m' h w' st' a' → Q .normal a' w') → (Code.region id ops draw).wp P Q a w
theorem region_plain {call : CallF} (hc : CallOk P call) {ops : Array Oper} {n id : Nat} {st st' : St} (hok : ops.toList.all (okOp n) = true) (he : runOps P call ops ops.toList st = some st') (hk : st.hp.ok) : RegionGoal P n id ops false st st' := by
  obtain ⟨k1, k2⟩ := runOps_ok hc _ _ _ he hk
  refine ⟨k1, k2, fun m h w a hf r Q hQ => wp_region ?_⟩
  have := runOps_sound hc ops.toList 0 st st' rfl (fun o ho => List.all_eq_true.1 hok o ho) he hk m h w a hf r Q hQ
  rw [List.range_eq_range']
  simpa using this
end
end Go.Proofs.Ytbhmodlpolgklaa.AI
