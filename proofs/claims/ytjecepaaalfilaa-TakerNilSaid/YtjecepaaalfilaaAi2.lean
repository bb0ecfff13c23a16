/- The abstract interpreter: what each operation answers. -/
import Derived.Test.YtjecepaaalfilaaAi1
set_option linter.unusedVariables false
set_option linter.unusedSimpArgs false
namespace Go.Proofs.Ytjecepaaalfilaa.AI
open Go

/-! ### 1. Numbers, strings, equality -/
def inR : IntKind → Int → Bool
  | .i64, n => decide (-9223372036854775808 ≤ n) && decide (n ≤ 9223372036854775807)
  | .u8, n => decide (0 ≤ n) && decide (n ≤ 255)
  | _, _ => false
def wrapF (k : IntKind) (n : Int) : Int :=
  match inR k n with
  | true => n
  | false => k.wrap n

def strCat (x y : ByteArray) : ByteArray := ⟨(x.data.toList ++ y.data.toList).toArray⟩
def strEq (x y : ByteArray) : Bool := x.data.toList == y.data.toList

def aBinI (op : BinOp) (k : IntKind) (a b : Int) : Option Value :=
  match op with
  | .add => some (.int k (wrapF k (a + b)))
  | .sub => some (.int k (wrapF k (a - b)))
  | .mul => some (.int k (wrapF k (a * b)))
  | .quo => if b = 0 then none else some (.int k (wrapF k (a.tdiv b)))
  | .rem => if b = 0 then none else some (.int k (a.tmod b))
  | .and => some (.int k (k.wrap (BitVec.ofInt k.bits a &&& BitVec.ofInt k.bits b).toNat))
  | .or => some (.int k (k.wrap (BitVec.ofInt k.bits a ||| BitVec.ofInt k.bits b).toNat))
  | .xor => some (.int k (k.wrap (BitVec.ofInt k.bits a ^^^ BitVec.ofInt k.bits b).toNat))
  | .andNot => some (.int k (k.wrap (BitVec.ofInt k.bits a &&& ~~~ BitVec.ofInt k.bits b).toNat))
  | .eql => some (.bool (a == b))
  | .neq => some (.bool (a != b))
  | .lss => some (.bool (decide (a < b)))
  | .leq => some (.bool (decide (a ≤ b)))
  | .gtr => some (.bool (decide (a > b)))
  | .geq => some (.bool (decide (a ≥ b)))
  | _ => none

def aShift (op : BinOp) (k : IntKind) (a b : Int) : Option Value :=
  if b < 0 then none else
  match op with
  | .shl => some (.int k (wrapF k (a * 2 ^ (min b.toNat k.bits))))
  | .shr => some (.int k (a.fdiv (2 ^ (min b.toNat k.bits))))
  | _ => none

def aBinS (op : BinOp) (x y : ByteArray) : Option Value :=
  match op with
  | .add => if x.size + y.size ≤ 2147483647 then some (.string (strCat x y)) else none
  | .eql => some (.bool (strEq x y))
  | .neq => some (.bool (!strEq x y))
  | .lss => some (.bool (Op.bytesLess x.data.toList y.data.toList))
  | .leq => some (.bool (Op.bytesLess x.data.toList y.data.toList || strEq x y))
  | .gtr => some (.bool (!(Op.bytesLess x.data.toList y.data.toList || strEq x y)))
  | .geq => some (.bool (!(Op.bytesLess x.data.toList y.data.toList)))
  | _ => none

/-- '==' at a type. -/
def aEq (P : Program) : Nat → TypeId → Value → Value → Option Bool
  | 0, _, _, _ => none
  | d + 1, t, x, y =>
    match P.underlying t, x, y with
    | some .bool, .bool a, .bool b => some (a == b)
    | some (.int _), .int k a, .int k' b => if k = k' then some (a == b) else none
    | some .string, .string a, .string b => some (strEq a b)
    | some (.pointer _), .pointer none, .pointer b => some b.isNone
    | some (.pointer _), .pointer (some _), .pointer none => some false
    | some (.slice _), .slice none _ _, .slice b _ _ => some b.isNone
    | some (.slice _), .slice (some _) _ _, .slice none _ _ => some false
    | some (.map _ _), .map none, .map b => some b.isNone
    | some (.map _ _), .map (some _), .map none => some false
    | some (.func _ _ _), .nilFunc, .nilFunc => some true
    | some (.func _ _ _), .nilFunc, .func _ _ _ => some false
    | some (.func _ _ _), .func _ _ _, .nilFunc => some false
    | some (.struct fs), .agg xs, .agg ys =>
      match P.stoodInHeld t with
      | true => none
      | false => fs.toList.foldr (fun f acc => match f.name == "_" with
        | true => acc
        | false => match partA P f.type xs f.offset, partA P f.type ys f.offset with
          | some a, some b => match aEq P d f.type a b with
            | some true => acc
            | some false => some false
            | none => none
          | _, _ => none) (some true)
    | _, _, _ => none

def eqKind : Value → Bool
  | .bool _ | .pointer _ | .slice .. | .map _ | .func .. | .nilFunc => true
  | _ => false

def aBin (P : Program) (op : BinOp) (t : TypeId) (x y : Value) : Option Value :=
  match x, y with
  | .int k a, .int k' b =>
    match op with
    | .shl => aShift .shl k a b
    | .shr => aShift .shr k a b
    | op => if k = k' then aBinI op k a b else none
  | .string a, .string b => aBinS op a b
  | .agg xs, .agg ys =>
    match P.eqGuardType P.depth t with
    | true => none
    | false => match op with
      | .eql => (aEq P 30 t (.agg xs) (.agg ys)).map .bool
      | .neq => (aEq P 30 t (.agg xs) (.agg ys)).map fun b => .bool !b
      | _ => none
  | x, y => match eqKind x && eqKind y with
    | false => none
    | true => match op with
      | .eql => (aEq P 30 t x y).map .bool
      | .neq => (aEq P 30 t x y).map fun b => .bool !b
      | _ => none

def aUn (op : UnOp) (x : Value) : Option Value :=
  match op, x with
  | .not, .bool b => some (.bool !b)
  | .neg, .int k n => some (.int k (wrapF k (0 - n)))
  | _, _ => none

def aConv (P : Program) (src dst : TypeId) (x : Value) : Option Value :=
  match P.underlying src, P.underlying dst, x with
  | some _, some (.int k), .int _ n => some (.int k (wrapF k n))
  | some _, some .string, .string s => some (.string s)
  | _, _, _ => none

/-! ### 2. Aggregates -/
def putL : List Value → Nat → List Value → List Value
  | [], _, _ => []
  | c :: cs, 0, [] => c :: cs
  | _ :: cs, 0, v :: vs => v :: putL cs 0 vs
  | c :: cs, n + 1, vs => c :: putL cs n vs

/-- The parts of a literal, laid over its noughts. -/
def aFill (place : Nat → Option (Nat × Nat)) (cells : List Value) : List (Nat × Value) → Option (List Value)
  | [] => some cells
  | (i, v) :: rest =>
    match place i with
    | none => none
    | some (off, size) =>
      if (cellsL v).length ≠ size || off + (cellsL v).length > cells.length then none
      else aFill place (putL cells off (cellsL v)) rest

def placesOf (P : Program) : List Field → Option (List (Nat × Nat))
  | [] => some []
  | f :: fs => match tsize P f.type, placesOf P fs with
    | some n, some r => some ((f.offset, n) :: r)
    | _, _ => none

def aBuild (P : Program) (t : TypeId) (parts : List (Nat × Value)) : Option Value :=
  match tzero P t with
  | none => none
  | some zero =>
    match P.underlying t with
    | some (.struct fields) => match placesOf P fields.toList with
      | none => none
      | some places => (aFill (places[·]?) zero parts).map fun cs => .agg cs.toArray
    | some (.array _ elem) => match tsize P elem with
      | none => none
      | some size => (aFill (fun i => some (i * size, size)) zero parts).map fun cs => .agg cs.toArray
    | _ => none

def repL (zero : List Value) : Nat → List Value
  | 0 => []
  | n + 1 => zero ++ repL zero n

/-- A slice's second number: three times an element's cells, and 0: its capacity is its length; 1: it ends where its row may go on; 2: nothing is known. -/
def flagOf (c : Nat) : Nat := c % 3
def wide (c : Nat) : Nat := c / 3

def aBuildSlice (P : Program) (sz : Nat) (t : TypeId) (len : Nat) (parts : List (Nat × Value)) : Option (Value × Blk) :=
  match P.underlying t with
  | some (.slice elem) => match tsize P elem, tzero P elem with
    | some size, some zero =>
      if size = 0 || zero.length ≠ size || len * size > 16777216 then none else
      (aFill (fun i => some (i * size, size)) (repL zero len) parts).map fun cs => (.slice (some ⟨sz, 0, none⟩) len (3 * size + 1), .cells elem cs false)
    | _, _ => none
  | _ => none

def aMakeSlice (P : Program) (sz : Nat) (t : TypeId) (len cap : Value) : Option (Value × Blk) :=
  match P.underlying t, len, cap with
  | some (.slice elem), .int _ l, .int _ c => match P.info? elem, tzero P elem with
    | some i, some zero =>
      if i.size = 0 || zero.length ≠ i.size || l < 0 || l > c || c > 2147483647 || i.bytes > 32768 then none else
      some (.slice (some ⟨sz, 0, none⟩) l.toNat (3 * i.size + 1), .cells elem (repL zero c.toNat) false)
    | _, _ => none
  | _, _, _ => none

/-! ### 3. Places -/
def aFieldAddr (P : Program) (s : TypeId) (x : Value) (field : Nat) : Option Value :=
  match P.underlying s, x with
  | some (.struct fields), .pointer (some a) => match fields[field]? with
    | some f => match tsize P f.type with
      | some 0 => none
      | some _ => some (.pointer (some ⟨a.block, a.off + f.offset, none⟩))
      | none => none
    | none => none
  | _, _ => none

def aIndexAddr (P : Program) (t : TypeId) (x index : Value) : Option Value :=
  match index with
  | .int _ i => match P.underlying t, x with
    | some (.array len elem), .pointer (some a) => match tsize P elem with
      | some size => if 0 ≤ i ∧ i < len then some (.pointer (some ⟨a.block, a.off + i.toNat * size, none⟩)) else none
      | none => none
    | some (.slice elem), .slice (some a) len _ => match tsize P elem with
      | some size => if 0 ≤ i ∧ i < len then some (.pointer (some ⟨a.block, a.off + i.toNat * size, none⟩)) else none
      | none => none
    | _, _ => none
  | _ => none

def aIndex (P : Program) (t : TypeId) (x index : Value) : Option Value :=
  match index with
  | .int _ i => match P.underlying t, x with
    | some (.array len elem), .agg cs => match tsize P elem with
      | some size => if 0 ≤ i ∧ i < len then partA P elem cs (i.toNat * size) else none
      | none => none
    | some .string, .string s => if 0 ≤ i then (s.data.toList[i.toNat]?).map fun b => .int .u8 b.toNat else none
    | _, _ => none
  | _ => none

def aField (P : Program) (t : TypeId) (x : Value) (field : Nat) : Option Value :=
  match P.underlying t, x with
  | some (.struct fields), .agg cs => match fields[field]? with
    | some f => partA P f.type cs f.offset
    | none => none
  | _, _ => none

def bound (x : Option Value) (d m : Nat) : Option Nat :=
  match x with
  | none => some d
  | some (.int _ i) => if 0 ≤ i ∧ i ≤ m then some i.toNat else none
  | _ => none

def aSlice (P : Program) (t : TypeId) (x : Value) (lo hi mx : Option Value) : Option Value :=
  match P.underlying t, x with
  | some .string, .string s => match mx with
    | some _ => none
    | none => match bound hi s.size s.size with
      | none => none
      | some h => match bound lo 0 h with
        | none => none
        | some l => some (.string ⟨((s.data.toList.drop l).take (h - l)).toArray⟩)
  | some (.slice elem), .slice none 0 0 => match tsize P elem, bound hi 0 0, bound lo 0 0, bound mx 0 0 with
    | some _, some _, some _, some _ => if hi.isNone && mx.isSome then none else some (.slice none 0 0)
    | _, _, _, _ => none
  | some (.slice elem), .slice (some a) len c => match tsize P elem with
    | none => none
    | some size => match mx with
      | none => match bound hi len len with
        | none => none
        | some h => match bound lo 0 h with
          | none => none
          | some l => some (.slice (some ⟨a.block, a.off + l * size, none⟩) (h - l)
              (if flagOf c = 1 ∧ wide c = size then c else if flagOf c = 0 ∧ h = len then c else 3 * size + 2))
      | some m => match bound (some m) len len, hi with
        | some m, some hi => match bound (some hi) len m with
          | none => none
          | some h => match bound lo 0 h with
            | none => none
            | some l => some (.slice (some ⟨a.block, a.off + l * size, none⟩) (h - l) (if h = m then 3 * size else 3 * size + 2))
        | _, _ => none
  | _, _ => none

/-! ### 4. Builtins that only look at their arguments -/
def aLen (P : Program) (t : TypeId) (x : Value) : Option Value :=
  match P.underlying t, x with
  | some .string, .string s => some (goInt s.size)
  | some (.slice _), .slice _ n _ => some (goInt n)
  | some (.map _ _), .map none => some (goInt 0)
  | _, _ => none

def foldMin : Value → List Value → Option Value
  | v, [] => some v
  | .int k x, .int _ y :: r => foldMin (.int k (if y < x then y else x)) r
  | _, _ => none
def foldMax : Value → List Value → Option Value
  | v, [] => some v
  | .int k x, .int _ y :: r => foldMax (.int k (if y > x then y else x)) r
  | _, _ => none

def aPureCall (P : Program) (b : Builtin) (types : List TypeId) (args : List Value) : Option Value :=
  match b, types, args with
  | .len, t :: _, x :: _ => aLen P t x
  | .min, _, x :: r => foldMin x r
  | .max, _, x :: r => foldMax x r
  | _, _, _ => none

/-! ### 5. Operations that look at no memory: an answer, and a block that is laid, if any -/
def ptr0 (b : Nat) : Value := .pointer (some ⟨b, 0, none⟩)

def opP (P : Program) (ρ : Operand → Value) (sz : Nat) (o : Oper) : Option (Value × Option Blk) :=
  match o.op with
  | .move x | .assign x => some (ρ x, none)
  | .pick c a b => match ρ c with
    | .bool true => some (ρ a, none)
    | .bool false => some (ρ b, none)
    | _ => none
  | .alloc elem => (tzero P elem).map fun z => (ptr0 sz, some (.cells elem z false))
  | .box elem x => some (ptr0 sz, some (.cells elem (cellsL (ρ x)) false))
  | .build t parts => (aBuild P t (parts.toList.map fun p => (p.1, ρ p.2))).map fun v => (v, none)
  | .buildSlice t len parts => (aBuildSlice P sz t len (parts.toList.map fun p => (p.1, ρ p.2))).map fun r => (r.1, some r.2)
  | .nilCheck x => match ρ x with
    | .pointer (some a) => some (.pointer (some a), none)
    | _ => none
  | .binOp op t x y _ => (aBin P op t (ρ x) (ρ y)).map fun v => (v, none)
  | .unOp op _ x => (aUn op (ρ x)).map fun v => (v, none)
  | .convert src dst x => (aConv P src dst (ρ x)).map fun v => (v, none)
  | .makeFunc (.func f) first captured => some (.func (.func f) (first.map ρ) (captured.map ρ), none)
  | .makeMap _ none => some (.map (some sz), some (.map [] 0 false))
  | .makeSlice t l c => (aMakeSlice P sz t (ρ l) (ρ c)).map fun r => (r.1, some r.2)
  | .slice t x lo hi mx => (aSlice P t (ρ x) (lo.map ρ) (hi.map ρ) (mx.map ρ)).map fun v => (v, none)
  | .fieldAddr s x f => (aFieldAddr P s (ρ x) f).map fun v => (v, none)
  | .field t x f => (aField P t (ρ x) f).map fun v => (v, none)
  | .indexAddr t x ix => (aIndexAddr P t (ρ x) (ρ ix)).map fun v => (v, none)
  | .index t x ix => (aIndex P t (ρ x) (ρ ix)).map fun v => (v, none)
  | .extract t ix => match ρ t with
    | .tuple vs => (vs[ix]?).map fun v => (v, none)
    | _ => none
  | .call c => match c.callee with
    | .builtin b => (aPureCall P b c.argTypes.toList (c.args.toList.map ρ)).map fun v => (v, none)
    | _ => none
  | _ => none

/-! ### 6. Operations that only read memory -/
def getR (cs : List Value) (off n : Nat) : Option (List Value) :=
  if ((cs.drop off).take n).length = n then some ((cs.drop off).take n) else none

def aLoad (P : Program) (get : Nat → Option Blk) (t : TypeId) (x : Value) : Option Value :=
  match x with
  | .pointer (some a) => match get a.block with
    | some (.cells _ cs _) => match tagg P t, tsize P t with
      | some true, some n => (getR cs a.off n).map fun r => .agg r.toArray
      | some false, some _ => cs[a.off]?
      | _, _ => none
    | _ => none
  | _ => none

/-- Two keys: an int, a string, a bool. -/
def keyEq : TypeDesc → Value → Value → Option Bool
  | .int _, .int k a, .int k' b => if k = k' then some (a == b) else none
  | .string, .string a, .string b => some (strEq a b)
  | .bool, .bool a, .bool b => some (a == b)
  | _, _, _ => none
def keyKind (P : Program) (t : TypeId) : Option TypeDesc :=
  match P.underlying t with
  | some (.int k) => some (.int k)
  | some .string => some .string
  | some .bool => some .bool
  | _ => none
def findE (d : TypeDesc) (k : Value) : List (Value × Value × Nat) → Nat → Option (Option (Nat × Value))
  | [], _ => some none
  | e :: es, i => match keyEq d k e.1 with
    | some true => some (some (i, e.2.1))
    | some false => findE d k es (i + 1)
    | none => none

def aLookup (P : Program) (get : Nat → Option Blk) (t : TypeId) (x k : Value) (ok : Bool) : Option Value :=
  match P.underlying t with
  | some (.map key elem) => match keyKind P key, (P.info? elem).bind (·.zero) with
    | some d, some z =>
      if plain z && flat k then
        match (match x with | .map none => some [] | .map (some r) => (match get r with | some (.map es _ _) => some es | _ => none) | _ => none) with
        | none => none
        | some es => match findE d k es 0 with
          | none => none
          | some (some (_, v)) => some (if ok then .tuple #[v, .bool true] else v)
          | some none => some (if ok then .tuple #[z, .bool false] else z)
      else none
    | _, _ => none
  | _ => none

def bytesOf : List Value → Option (List UInt8)
  | [] => some []
  | .int .u8 n :: r => (bytesOf r).map (UInt8.ofNat n.toNat :: ·)
  | _ => none

def aBytesToString (P : Program) (get : Nat → Option Blk) (src dst : TypeId) (x : Value) : Option Value :=
  match P.underlying src, P.underlying dst, x with
  | some (.slice e), some .string, .slice none 0 0 => match P.underlying e with
    | some (.int .u8) => some (.string ⟨#[]⟩)
    | _ => none
  | some (.slice e), some .string, .slice (some a) len _ => match P.underlying e, get a.block with
    | some (.int .u8), some (.cells _ cs _) => match getR cs a.off len with
      | some r => (bytesOf r).map fun bs => .string ⟨bs.toArray⟩
      | none => none
    | _, _ => none
  | _, _, _ => none

def aLenMap (P : Program) (get : Nat → Option Blk) (t : TypeId) (x : Value) : Option Value :=
  match P.underlying t, x with
  | some (.map _ _), .map (some r) => match get r with
    | some (.map es _ _) => some (goInt es.length)
    | _ => none
  | _, _ => none

/-- A pointer as an raw pointer, and back: the variable behind it lies there. -/
def aUnsafe (P : Program) (get : Nat → Option Blk) (src dst : TypeId) (x : Value) : Option Value :=
  match P.underlying src, P.underlying dst, x with
  | some (.pointer _), some .unsafePointer, .pointer none => some x
  | some (.pointer t), some .unsafePointer, .pointer (some a) => match get a.block, tsize P t with
    | some (.cells _ cs _), some n => if n = 0 ∨ cs.length ≤ a.off then none else some x
    | _, _ => none
  | some .unsafePointer, some (.pointer _), .pointer none => some x
  | _, _, _ => none

def opR (P : Program) (ρ : Operand → Value) (get : Nat → Option Blk) (o : Oper) : Option Value :=
  match o.op with
  | .load t a => aLoad P get t (ρ a)
  | .lookup t x k ok => aLookup P get t (ρ x) (ρ k) ok
  | .convert src dst x => match aBytesToString P get src dst (ρ x) with
    | some v => some v
    | none => aUnsafe P get src dst (ρ x)
  | .call c => match c.callee, c.argTypes.toList, c.args.toList with
    | .builtin .len, t :: _, x :: _ => aLenMap P get t (ρ x)
    | _, _, _ => none
  | _ => none

/-! ### 7. Operations that write memory: an answer, blocks put anew, a block laid -/
inductive Eff where
  | put (b : Nat) (o : Blk) : Eff
  | push (o : Blk) : Eff

def aStore (P : Program) (get : Nat → Option Blk) (t : TypeId) (x v : Value) : Option (List Eff) :=
  match x with
  | .pointer (some a) => match get a.block with
    | some (.cells ty cs false) => match tsize P t with
      | some n => if (cellsL v).length = n && (cellsL v).all isOne && a.off + n ≤ cs.length then some [.put a.block (.cells ty (putL cs a.off (cellsL v)) false)] else none
      | none => none
    | _ => none
  | _ => none

/-- The first cells of a slice or a string. -/
def srcCells (get : Nat → Option Blk) (size n : Nat) : Value → Option (List Value)
  | .slice none 0 0 => if n = 0 then some [] else none
  | .slice (some a) len _ => if n = 0 then some [] else if len < n then none else match get a.block with
    | some (.cells _ cs _) => getR cs a.off (n * size)
    | _ => none
  | .string s => some ((s.data.toList.take n).map fun b => .int .u8 b.toNat)
  | _ => none
def srcLen : Value → Option Nat
  | .slice _ n _ => some n
  | .string s => some s.size
  | _ => none

/-- What is appended: cells, and how many elements. -/
def aSrc (P : Program) (get : Nat → Option Blk) (size : Nat) (zero : List Value) (xd : TypeDesc) (x : Value) : Option (List Value × Nat) :=
  match xd with
  | .int _ => match x with
    | .int _ n => if 0 ≤ n ∧ n ≤ 2147483647 then some (repL zero n.toNat, n.toNat) else none
    | _ => none
  | _ => match srcLen x with
    | none => none
    | some m => (srcCells get size m x).map fun ns => (ns, m)

def aAppend (P : Program) (get : Nat → Option Blk) (sz : Nat) (types : List TypeId) (args : List Value) : Option (Value × List Eff) :=
  match types, args with
  | st :: xt :: _, s :: x :: _ => match P.underlying st, P.underlying xt with
    | some (.slice elem), some xd => match P.info? elem with
      | none => none
      | some i => match tzero P elem with
        | none => none
        | some zero =>
          if i.size = 0 ∨ zero.length ≠ i.size ∨ 32768 < i.bytes then none else
          match aSrc P get i.size zero xd x with
          | none => none
          | some (ns, m) =>
            if ns.all isOne = false ∨ ns.length ≠ m * i.size then none else
            match s with
            | .slice none 0 0 => if m = 0 then some (s, []) else if 2147483647 < m then none else some (.slice (some ⟨sz, 0, none⟩) m (3 * i.size + 1), [.push (.cells elem ns false)])
            | .slice (some a) len c =>
              if m = 0 then some (s, []) else if 2147483647 < len + m then none else
              match get a.block with
              | some (.cells ty cs ro) => match getR cs a.off (len * i.size) with
                | none => none
                | some old =>
                  if c = 3 * i.size then some (.slice (some ⟨sz, 0, none⟩) (len + m) (3 * i.size + 1), [.push (.cells elem (old ++ ns) false)])
                  else if c = 3 * i.size + 1 ∧ ro = false ∧ ty = elem then
                    if a.off + (len + m) * i.size ≤ cs.length then some (.slice (some a) (len + m) c, [.put a.block (.cells ty (putL cs (a.off + len * i.size) ns) false)])
                    else some (.slice (some ⟨sz, 0, none⟩) (len + m) (3 * i.size + 1), [.put a.block .dead, .push (.cells ty (old ++ ns) false)])
                  else none
              | _ => none
            | _ => none
    | _, _ => none
  | _, _ => none

def aCopy (P : Program) (get : Nat → Option Blk) (types : List TypeId) (args : List Value) : Option (Value × List Eff) :=
  match types, args with
  | dt :: _, d :: x :: _ => match P.underlying dt with
    | some (.slice elem) => match tsize P elem, d, srcLen x with
      | some size, .slice base dlen _, some m =>
        match srcCells get size (min m dlen) x with
        | none => none
        | some ns =>
          if !(ns.all isOne) || ns.length ≠ min m dlen * size then none else
          match base with
          | none => if min m dlen = 0 then some (goInt 0, []) else none
          | some a =>
            if min m dlen = 0 then some (goInt 0, []) else
            match get a.block with
            | some (.cells ty cs false) => if a.off + ns.length ≤ cs.length then some (goInt (min m dlen : Nat), [.put a.block (.cells ty (putL cs a.off ns) false)]) else none
            | _ => none
      | _, _, _ => none
    | _ => none
  | _, _ => none

def aClear (P : Program) (get : Nat → Option Blk) (types : List TypeId) (args : List Value) : Option (Value × List Eff) :=
  match types, args with
  | t :: _, x :: _ => match P.underlying t, x with
    | some (.slice _), .slice none 0 0 => some (.tuple #[], [])
    | some (.slice elem), .slice (some a) len _ =>
      if len = 0 then some (.tuple #[], []) else
      match tzero P elem, get a.block with
      | some zero, some (.cells ty cs false) => if a.off + (repL zero len).length ≤ cs.length then some (.tuple #[], [.put a.block (.cells ty (putL cs a.off (repL zero len)) false)]) else none
      | _, _ => none
    | _, _ => none
  | _, _ => none

def setE : List (Value × Value × Nat) → Nat → (Value × Value × Nat) → List (Value × Value × Nat)
  | [], _, _ => []
  | _ :: es, 0, x => x :: es
  | e :: es, n + 1, x => e :: setE es n x
def dropE : List (Value × Value × Nat) → Nat → List (Value × Value × Nat)
  | [], _ => []
  | _ :: es, 0 => es
  | e :: es, n + 1 => e :: dropE es n
def bornE : List (Value × Value × Nat) → Nat → Nat
  | [], _ => 0
  | e :: _, 0 => e.2.2
  | _ :: es, n + 1 => bornE es n
def stampE (b : Int) : List (Value × Value × Nat) → Nat → Option (Nat × Value)
  | [], _ => none
  | e :: es, i => if (e.2.2 : Int) == b then some (i, e.1) else stampE b es (i + 1)

def aUpdate (P : Program) (get : Nat → Option Blk) (t : TypeId) (m k v : Value) : Option (List Eff) :=
  match P.underlying t, m with
  | some (.map key _), .map (some r) => match keyKind P key, get r with
    | some d, some (.map es clock false) => match findE d k es 0 with
      | none => none
      | some (some (i, _)) => some [.put r (.map (setE es i (k, v, bornE es i)) clock false)]
      | some none => if flat k then some [.put r (.map (es ++ [(k, v, clock)]) (clock + 1) false)] else none
    | _, _ => none
  | _, _ => none

def aEntry (P : Program) (get : Nat → Option Blk) (t : TypeId) (m k : Value) : Option (Value × List Eff) :=
  match P.underlying t, m with
  | some (.map key elem), .map (some r) => match keyKind P key, get r with
    | some d, some (.map es clock false) => match findE d k es 0 with
      | none => none
      | some (some (i, v)) => some (.tuple #[v, goInt (bornE es i)], [.put r (.map (setE es i (k, v, bornE es i)) clock false)])
      | some none => match (P.info? elem).bind (·.zero) with
        | some z => if flat k && plain z then some (.tuple #[z, goInt clock], [.put r (.map (es ++ [(k, z, clock)]) (clock + 1) false)]) else none
        | none => none
    | _, _ => none
  | _, _ => none

def aEntryStore (get : Nat → Option Blk) (m s v : Value) : Option (List Eff) :=
  match m, s with
  | .map (some r), .int _ b => match get r with
    | some (.map es clock false) => match stampE b es 0 with
      | some (i, k) => some [.put r (.map (setE es i (k, v, bornE es i)) clock false)]
      | none => none
    | _ => none
  | _, _ => none

def aDelete (P : Program) (get : Nat → Option Blk) (types : List TypeId) (args : List Value) : Option (Value × List Eff) :=
  match types, args with
  | t :: _, m :: k :: _ => match P.underlying t with
    | some (.map key _) => match keyKind P key, m with
      | some d, .map none => if flat k then some (.tuple #[], []) else none
      | some d, .map (some r) => match get r with
        | some (.map es clock false) => match findE d k es 0 with
          | none => none
          | some (some (i, _)) => some (.tuple #[], [.put r (.map (dropE es i) clock false)])
          | some none => if flat k then some (.tuple #[], []) else none
        | _ => none
      | _, _ => none
    | _ => none
  | _, _ => none

/-- A string's bytes, in a row of their own. -/
def aStringToBytes (P : Program) (sz : Nat) (src dst : TypeId) (x : Value) : Option (Value × List Eff) :=
  match P.underlying src, P.underlying dst, x with
  | some _, some (.slice e), .string s => match P.underlying e, tsize P e with
    | some (.int .u8), some 1 => if s.size ≤ 2147483647 then some (.slice (some ⟨sz, 0, none⟩) s.size 4, [.push (.cells e (s.data.toList.map fun b => .int .u8 b.toNat) false)]) else none
    | _, _ => none
  | _, _, _ => none

def opB (P : Program) (ρ : Operand → Value) (sz : Nat) (get : Nat → Option Blk) (o : Oper) : Option (Value × List Eff) :=
  match o.op with
  | .store t a v => (aStore P get t (ρ a) (ρ v)).map fun es => (undef, es)
  | .mapUpdate t m k v | .insert t m k v => (aUpdate P get t (ρ m) (ρ k) (ρ v)).map fun es => (undef, es)
  | .mapEntry t m k => aEntry P get t (ρ m) (ρ k)
  | .entryStore _ m s v => (aEntryStore get (ρ m) (ρ s) (ρ v)).map fun es => (undef, es)
  | .convert src dst x => aStringToBytes P sz src dst (ρ x)
  | .call c => match c.callee with
    | .builtin .append => aAppend P get sz c.argTypes.toList (c.args.toList.map ρ)
    | .builtin .copy => aCopy P get c.argTypes.toList (c.args.toList.map ρ)
    | .builtin .clear => aClear P get c.argTypes.toList (c.args.toList.map ρ)
    | .builtin .delete => aDelete P get c.argTypes.toList (c.args.toList.map ρ)
    | _ => none
  | _ => none
end Go.Proofs.Ytjecepaaalfilaa.AI
