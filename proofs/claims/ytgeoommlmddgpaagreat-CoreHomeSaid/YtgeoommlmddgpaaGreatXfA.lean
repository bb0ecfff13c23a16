/- Part 1. -/
import Derived.Calls
import Derived.Defers
import Derived.Scope
import Derived.Below
import Derived.Laws.Sem
import Derived.Laws.Strings
import Derived.Lib.Strings
import Derived.Laws.StructEq
import Derived.Laws.Entries
import Derived.Laws.BytesArg
import Derived.Lib.ConvBytes
import Derived.LoopN
import Derived.Orders
import Derived.Laws.LoneSync
import Derived.KernelRfl
set_option linter.unusedVariables false
set_option linter.unusedSimpArgs false
set_option maxRecDepth 100000
namespace Go.Proofs.YtgeoommlmddgpaaGreat.AI
open Go
inductive Tr (α : Type) where
 | leaf:Tr α
 | node:Option α→Tr α→Tr α→Tr α
def Tr.get{α : Type}:Tr α→Nat→Option α
 | .leaf,_=>none
 | .node v _ _,0=>v
 | .node _ l r,m+1=>match Nat.beq (m % 2) 0 with
   | true=>l.get (m / 2)
   | false=>r.get (m / 2)
def Tr.set{α : Type}(v : α):Nat→Nat→Tr α→Tr α
 | 0,_,t=>t
 | _+1,0,.leaf=>.node (some v) .leaf .leaf
 | _+1,0,.node _ l r=>.node (some v) l r
 | f+1,m+1,.leaf=>match Nat.beq (m % 2) 0 with
   | true=>.node none (Tr.set v f (m / 2) .leaf) .leaf
   | false=>.node none .leaf (Tr.set v f (m / 2) .leaf)
 | f+1,m+1,.node x l r=>match Nat.beq (m % 2) 0 with
   | true=>.node x (Tr.set v f (m / 2) l) r
   | false=>.node x l (Tr.set v f (m / 2) r)
theorem Tr.vJ{α : Type}(n:Nat):(Tr.leaf:Tr α).get n=none:=rfl
theorem GI(n:Nat):Nat.beq n 0=decide (n=0):=by cases n <;> simp [Nat.beq]
theorem pC{α : Type}{m n:Nat}(h:m % 2=0↔n % 2=0)(a b : α):(if m / 2=n / 2 then a else b)=if m+1=n+1 then a else b:=by
 by_cases e:m / 2=n / 2
 ·rw [if_pos e,if_pos (by omega)]
 ·rw [if_neg e,if_neg (by omega)]
theorem Tr.jv{α : Type}(v : α):∀ (f n:Nat) (t:Tr α) (m:Nat),n<f→(Tr.set v f n t).get m=if m=n then some v else t.get m
 | 0,n,t,m,h=>absurd h (by omega)
 | f+1,0,.leaf,m,_=>by
   cases m with
   | zero=>rfl
   | succ m=>simp only [Tr.set,Tr.get]; cases Nat.beq (m % 2) 0 <;> simp
 | f+1,0,.node _ l r,m,_=>by
   cases m with
   | zero=>rfl
   | succ m=>simp only [Tr.set,Tr.get]; simp
 | f+1,n+1,.leaf,m,h=>by
   have ih:=fun t m=>Tr.jv v f (n / 2) t m (by omega)
   cases m with
   | zero=>simp only [Tr.set]; cases Nat.beq (n % 2) 0 <;> simp [Tr.get]
   | succ m =>
     simp only [Tr.set,GI];by_cases hn:n % 2=0 <;> by_cases hm:m % 2=0 <;> simp only [hn,hm,decide_true,decide_false,Tr.get,GI,ih]
     ·exact pC (by omega) _ _
     ·rw [if_neg (by omega)]
     ·rw [if_neg (by omega)]
     ·exact pC (by omega) _ _
 | f+1,n+1,.node x l r,m,h=>by
   have ih:=fun t m=>Tr.jv v f (n / 2) t m (by omega)
   cases m with
   | zero=>simp only [Tr.set]; cases Nat.beq (n % 2) 0 <;> simp [Tr.get]
   | succ m =>
     simp only [Tr.set,GI];by_cases hn:n % 2=0 <;> by_cases hm:m % 2=0 <;> simp only [hn,hm,decide_true,decide_false,Tr.get,GI,ih]
     ·exact pC (by omega) _ _
     ·rw [if_neg (by omega)]
     ·rw [if_neg (by omega)]
     ·exact pC (by omega) _ _
inductive af where
 | cells (ty:TypeId) (cs:List Value) (ro:Bool):af
 | map (es:List (Value×Value×Nat)) (clock:Nat) (ro:Bool):af
 | dead:af
structure Hp where
 sz:Nat
 tr:Tr af
def Hp.get(h:Hp)(b:Nat):Option af:=h.tr.get b
def Hp.push(h:Hp)(o:af):Hp:=⟨h.sz+1,Tr.set o (h.sz+1) h.sz h.tr⟩
def Hp.put(h:Hp)(b:Nat)(o:af):Hp:=⟨h.sz,Tr.set o (b+1) b h.tr⟩
theorem Hp.cy(h:Hp)(o:af)(b:Nat):(h.push o).get b=if b=h.sz then some o else h.get b:=Tr.jv _ _ _ _ _ (by omega)
theorem Hp.dy(h:Hp)(c:Nat)(o:af)(b:Nat):(h.put c o).get b=if b=c then some o else h.get b:=Tr.jv _ _ _ _ _ (by omega)
theorem Hp.jO(h:Hp)(o:af):(h.push o).sz=h.sz+1:=rfl
theorem Hp.kG(h:Hp)(c:Nat)(o:af):(h.put c o).sz=h.sz:=rfl
structure St where
 tm:Tr Value
 hp:Hp
 df:List (FuncId×List Value)
def St.dK(s:St)(t:Nat):Value:=(s.tm.get t).getD undef
def St.tput(s:St)(d:Option Tmp)(v:Value):St :=
 match d with
 | some t=>{ s with tm:=Tr.set v (t+1) t s.tm }
 | none=>s
def St.eval(s:St):Operand→Value
 | .tmp t=>s.dK t
 | .const v=>v
 | .global _=>undef
 | .func f=>.func (.func f) #[] #[]
def flat:Value→Bool
 | .bool _ | .int _ _ | .string _ | .pointer none | .slice none 0 0 | .map none | .nilFunc | .nilIface=>true
 | _=>false
def plain:Value→Bool
 | .agg cs=>cs.toList.all flat
 | .func (.func _) a b=>a.isEmpty&&b.isEmpty
 | v=>flat v
def isOne:Value→Bool
 | .agg _ | .tuple _ | .chan none=>false
 | _=>true
def isJunk:Value→Bool
 | .chan none=>true
 | _=>false
def cellsL:Value→List Value
 | .agg cs=>cs.toList
 | v=>[v]
def bZ(P:Program)(t:TypeId):Option Nat:=(P.info? t).map (·.size)
def tzero(P:Program)(t:TypeId):Option (List Value) :=
 match (P.info? t).bind (·.zero) with
 | some v=>match (cellsL v).all flat with
   | true=>some (cellsL v)
   | false=>none
 | none=>none
def tagg(P:Program)(t:TypeId):Option Bool :=
 match P.underlying t with
 | some (.struct _) | some (.array _ _)=>some true
 | some _=>some false
 | none=>none
def partA(P:Program)(t:TypeId)(cs:Array Value)(off:Nat):Option Value :=
 match tagg P t,bZ P t with
 | some true,some n=>some (.agg (cs.extract off (off+n)))
 | some false,some _=>cs[off]?
 | _,_=>none
def inR:IntKind→Int→Bool
 | .i64,n=>decide (-9223372036854775808≤n)&&decide (n≤9223372036854775807)
 | .u8,n=>decide (0≤n)&&decide (n≤255)
 | _,_=>false
def wrapF(k:IntKind)(n:Int):Int :=
 match inR k n with
 | true=>n
 | false=>k.wrap n
def yE(x y:ByteArray):ByteArray:=⟨(x.data.toList++y.data.toList).toArray⟩
def iG(x y:ByteArray):Bool:=x.data.toList==y.data.toList
def aBinI(op:BinOp)(k:IntKind)(a b:Int):Option Value :=
 match op with
 | .add=>some (.int k (wrapF k (a+b)))
 | .sub=>some (.int k (wrapF k (a-b)))
 | .mul=>some (.int k (wrapF k (a*b)))
 | .quo=>if b=0 then none else some (.int k (wrapF k (a.tdiv b)))
 | .rem=>if b=0 then none else some (.int k (a.tmod b))
 | .and=>some (.int k (k.wrap (BitVec.ofInt k.bits a &&& BitVec.ofInt k.bits b).toNat))
 | .or=>some (.int k (k.wrap (BitVec.ofInt k.bits a ||| BitVec.ofInt k.bits b).toNat))
 | .xor=>some (.int k (k.wrap (BitVec.ofInt k.bits a ^^^ BitVec.ofInt k.bits b).toNat))
 | .andNot=>some (.int k (k.wrap (BitVec.ofInt k.bits a &&& ~~~ BitVec.ofInt k.bits b).toNat))
 | .eql=>some (.bool (a==b))
 | .neq=>some (.bool (a != b))
 | .lss=>some (.bool (decide (a<b)))
 | .leq=>some (.bool (decide (a≤b)))
 | .gtr=>some (.bool (decide (a>b)))
 | .geq=>some (.bool (decide (a≥b)))
 | _=>none
def aShift(op:BinOp)(k:IntKind)(a b:Int):Option Value :=
 if b<0 then none else
 match op with
 | .shl=>some (.int k (wrapF k (a*2 ^ (min b.toNat k.bits))))
 | .shr=>some (.int k (a.fdiv (2 ^ (min b.toNat k.bits))))
 | _=>none
def aBinS(op:BinOp)(x y:ByteArray):Option Value :=
 match op with
 | .add=>if x.size+y.size≤2147483647 then some (.string (yE x y)) else none
 | .eql=>some (.bool (iG x y))
 | .neq=>some (.bool (!iG x y))
 | .lss=>some (.bool (Op.bytesLess x.data.toList y.data.toList))
 | .leq=>some (.bool (Op.bytesLess x.data.toList y.data.toList||iG x y))
 | .gtr=>some (.bool (!(Op.bytesLess x.data.toList y.data.toList||iG x y)))
 | .geq=>some (.bool (!(Op.bytesLess x.data.toList y.data.toList)))
 | _=>none
def aEq(P:Program):Nat→TypeId→Value→Value→Option Bool
 | 0,_,_,_=>none
 | d+1,t,x,y =>
   match P.underlying t,x,y with
   | some .bool,.bool a,.bool b=>some (a==b)
   | some (.int _),.int k a,.int k' b=>if k=k' then some (a==b) else none
   | some .string,.string a,.string b=>some (iG a b)
   | some (.pointer _),.pointer none,.pointer b=>some b.isNone
   | some (.pointer _),.pointer (some _),.pointer none=>some false
   | some (.slice _),.slice none _ _,.slice b _ _=>some b.isNone
   | some (.slice _),.slice (some _) _ _,.slice none _ _=>some false
   | some (.map _ _),.map none,.map b=>some b.isNone
   | some (.map _ _),.map (some _),.map none=>some false
   | some (.func _ _ _),.nilFunc,.nilFunc=>some true
   | some (.func _ _ _),.nilFunc,.func _ _ _=>some false
   | some (.func _ _ _),.func _ _ _,.nilFunc=>some false
   | some (.struct fs),.agg xs,.agg ys =>
     match P.stoodInHeld t with
     | true=>none
     | false=>fs.toList.foldr (fun f acc=>match f.name == "_" with
       | true=>acc
       | false=>match partA P f.type xs f.offset,partA P f.type ys f.offset with
         | some a,some b=>match aEq P d f.type a b with
           | some true=>acc
           | some false=>some false
           | none=>none
         | _,_=>none) (some true)
   | _,_,_=>none
def eqKind:Value→Bool
 | .bool _ | .pointer _ | .slice .. | .map _ | .func .. | .nilFunc=>true
 | _=>false
def aBin(P:Program)(op:BinOp)(t:TypeId)(x y:Value):Option Value :=
 match x,y with
 | .int k a,.int k' b =>
   match op with
   | .shl=>aShift .shl k a b
   | .shr=>aShift .shr k a b
   | op=>if k=k' then aBinI op k a b else none
 | .string a,.string b=>aBinS op a b
 | .agg xs,.agg ys =>
   match P.eqGuardType P.depth t with
   | true=>none
   | false=>match op with
     | .eql=>(aEq P 30 t (.agg xs) (.agg ys)).map .bool
     | .neq=>(aEq P 30 t (.agg xs) (.agg ys)).map fun b=>.bool !b
     | _=>none
 | x,y=>match eqKind x&&eqKind y with
   | false=>none
   | true=>match op with
     | .eql=>(aEq P 30 t x y).map .bool
     | .neq=>(aEq P 30 t x y).map fun b=>.bool !b
     | _=>none
def aUn(op:UnOp)(x:Value):Option Value :=
 match op,x with
 | .not,.bool b=>some (.bool !b)
 | .neg,.int k n=>some (.int k (wrapF k (0-n)))
 | _,_=>none
def aConv(P:Program)(src dst:TypeId)(x:Value):Option Value :=
 match P.underlying src,P.underlying dst,x with
 | some _,some (.int k),.int _ n=>some (.int k (wrapF k n))
 | some _,some .string,.string s=>some (.string s)
 | _,_,_=>none
def putL:List Value→Nat→List Value→List Value
 | [],_,_=>[]
 | c::cs,0,[]=>c::cs
 | _::cs,0,v::vs=>v::putL cs 0 vs
 | c::cs,n+1,vs=>c::putL cs n vs
def aFill(place:Nat→Option (Nat×Nat))(cells:List Value):List (Nat×Value)→Option (List Value)
 | []=>some cells
 | (i,v)::rest =>
   match place i with
   | none=>none
   | some (off,size) =>
     if isJunk v||(cellsL v).length≠size||off+(cellsL v).length>cells.length then none
     else aFill place (putL cells off (cellsL v)) rest
def placesOf(P:Program):List Field→Option (List (Nat×Nat))
 | []=>some []
 | f::fs=>match bZ P f.type,placesOf P fs with
   | some n,some r=>some ((f.offset,n)::r)
   | _,_=>none
def aBuild(P:Program)(t:TypeId)(parts:List (Nat×Value)):Option Value :=
 match tzero P t with
 | none=>none
 | some zero =>
   match P.underlying t with
   | some (.struct fields)=>match placesOf P fields.toList with
     | none=>none
     | some places=>(aFill (places[·]?) zero parts).map fun cs=>.agg cs.toArray
   | some (.array _ elem)=>match bZ P elem with
     | none=>none
     | some size=>(aFill (fun i=>some (i*size,size)) zero parts).map fun cs=>.agg cs.toArray
   | _=>none
def repL(zero:List Value):Nat→List Value
 | 0=>[]
 | n+1=>zero++repL zero n
def eJ(c:Nat):Nat:=c % 3
def spareOf(c:Nat):Nat:=match c % 3 with
 | 0=>c / 3 / 1000000
 | _=>0
def wide(c:Nat):Nat:=c / 3
def aBuildSlice(P:Program)(sz:Nat)(t:TypeId)(len:Nat)(parts:List (Nat×Value)):Option (Value×af) :=
 match P.underlying t with
 | some (.slice elem)=>match bZ P elem,tzero P elem with
   | some size,some zero =>
     if size=0||zero.length≠size||len*size>16777216 then none else
     (aFill (fun i=>some (i*size,size)) (repL zero len) parts).map fun cs=>(.slice (some ⟨sz,0,none⟩) len (3*size+1),.cells elem cs false)
   | _,_=>none
 | _=>none
def aMakeSlice(P:Program)(sz:Nat)(t:TypeId)(len cap:Value):Option (Value×af) :=
 match P.underlying t,len,cap with
 | some (.slice elem),.int _ l,.int _ c=>match P.info? elem,tzero P elem with
   | some i,some zero =>
     if i.size=0||zero.length≠i.size||l<0||l>c||c>2147483647||i.bytes>32768 then none else
     some (.slice (some ⟨sz,0,none⟩) l.toNat (3*i.size+1),.cells elem (repL zero c.toNat) false)
   | _,_=>none
 | _,_,_=>none
def aFieldAddr(P:Program)(s:TypeId)(x:Value)(field:Nat):Option Value :=
 match P.underlying s,x with
 | some (.struct fields),.pointer (some a)=>match fields[field]? with
   | some f=>match bZ P f.type with
     | some 0=>none
     | some _=>some (.pointer (some ⟨a.block,a.off+f.offset,none⟩))
     | none=>none
   | none=>none
 | _,_=>none
def aIndexAddr(P:Program)(t:TypeId)(x index:Value):Option Value :=
 match index with
 | .int _ i=>match P.underlying t,x with
   | some (.array len elem),.pointer (some a)=>match bZ P elem with
     | some size=>if 0≤i∧i<len then some (.pointer (some ⟨a.block,a.off+i.toNat*size,none⟩)) else none
     | none=>none
   | some (.slice elem),.slice (some a) len _=>match bZ P elem with
     | some size=>if 0≤i∧i<len then some (.pointer (some ⟨a.block,a.off+i.toNat*size,none⟩)) else none
     | none=>none
   | _,_=>none
 | _=>none
def aIndex(P:Program)(t:TypeId)(x index:Value):Option Value :=
 match index with
 | .int _ i=>match P.underlying t,x with
   | some (.array len elem),.agg cs=>match bZ P elem with
     | some size=>if 0≤i∧i<len then partA P elem cs (i.toNat*size) else none
     | none=>none
   | some .string,.string s=>if 0≤i then (s.data.toList[i.toNat]?).map fun b=>.int .u8 b.toNat else none
   | _,_=>none
 | _=>none
def aField(P:Program)(t:TypeId)(x:Value)(field:Nat):Option Value :=
 match P.underlying t,x with
 | some (.struct fields),.agg cs=>match fields[field]? with
   | some f=>partA P f.type cs f.offset
   | none=>none
 | _,_=>none
def bound(x:Option Value)(d m:Nat):Option Nat :=
 match x with
 | none=>some d
 | some (.int _ i)=>if 0≤i∧i≤m then some i.toNat else none
 | _=>none
def aSlice(P:Program)(t:TypeId)(x:Value)(lo hi mx:Option Value):Option Value :=
 match P.underlying t,x with
 | some .string,.string s=>match mx with
   | some _=>none
   | none=>match bound hi s.size s.size with
     | none=>none
     | some h=>match bound lo 0 h with
       | none=>none
       | some l=>some (.string ⟨((s.data.toList.drop l).take (h-l)).toArray⟩)
 | some (.slice elem),.slice none 0 0=>match bZ P elem,bound hi 0 0,bound lo 0 0,bound mx 0 0 with
   | some _,some _,some _,some _=>if hi.isNone&&mx.isSome then none else some (.slice none 0 0)
   | _,_,_,_=>none
 | some (.slice elem),.slice (some a) len c=>match bZ P elem with
   | none=>none
   | some size=>match mx with
     | none=>match bound hi len (len+spareOf c) with
       | none=>none
       | some h=>match bound lo 0 h with
         | none=>none
         | some l=>some (.slice (some ⟨a.block,a.off+l*size,none⟩) (h-l)
             (if eJ c=1∧wide c=size then c else if eJ c=0 then 3*(wide c % 1000000+1000000*(len+spareOf c-h)) else 3*size+2))
     | some m=>match bound (some m) len len,hi with
       | some m,some hi=>match bound (some hi) len m with
         | none=>none
         | some h=>match bound lo 0 h with
           | none=>none
           | some l=>some (.slice (some ⟨a.block,a.off+l*size,none⟩) (h-l) (if h=m∧size<1000000 then 3*size else 3*size+2))
       | _,_=>none
 | _,_=>none
def aLen(P:Program)(t:TypeId)(x:Value):Option Value :=
 match P.underlying t,x with
 | some .string,.string s=>some (goInt s.size)
 | some (.slice _),.slice _ n _=>some (goInt n)
 | some (.slice _),.chan (some n)=>some (goInt n)
 | some (.map _ _),.map none=>some (goInt 0)
 | _,_=>none
def aCap(P:Program)(t:TypeId)(x:Value):Option Value :=
 match P.underlying t,x with
 | some (.slice _),.slice none 0 0=>some (goInt 0)
 | some (.slice _),.slice (some _) n c=>match c % 3 with
   | 0=>some (goInt (n+c / 3 / 1000000))
   | _=>none
 | _,_=>none
def foldMin:Value→List Value→Option Value
 | v,[]=>some v
 | .int k x,.int _ y::r=>foldMin (.int k (if y<x then y else x)) r
 | _,_=>none
def mV:Value→List Value→Option Value
 | v,[]=>some v
 | .int k x,.int _ y::r=>mV (.int k (if y>x then y else x)) r
 | _,_=>none
def aPureCall(P:Program)(b:Builtin)(types:List TypeId)(args:List Value):Option Value :=
 match b,types,args with
 | .len,t::_,x::_=>aLen P t x
 | .cap,t::_,x::_=>aCap P t x
 | .min,_,x::r=>foldMin x r
 | .max,_,x::r=>mV x r
 | _,_,_=>none
def EF(b:Nat):Value:=.pointer (some ⟨b,0,none⟩)
def opP(P:Program)(ρ : Operand→Value)(sz:Nat)(o:Oper):Option (Value×Option af) :=
 match o.op with
 | .move x | .assign x=>some (ρ x,none)
 | .pick c a b=>match ρ c with
   | .bool true=>some (ρ a,none)
   | .bool false=>some (ρ b,none)
   | _=>none
 | .alloc elem=>(tzero P elem).map fun z=>(EF sz,some (.cells elem z false))
 | .box elem x=>match isJunk (ρ x) with
   | false=>some (EF sz,some (.cells elem (cellsL (ρ x)) false))
   | true=>none
 | .build t parts=>(aBuild P t (parts.toList.map fun p=>(p.1,ρ p.2))).map fun v=>(v,none)
 | .buildSlice t len parts=>(aBuildSlice P sz t len (parts.toList.map fun p=>(p.1,ρ p.2))).map fun r=>(r.1,some r.2)
 | .nilCheck x=>match ρ x with
   | .pointer (some a)=>some (.pointer (some a),none)
   | _=>none
 | .binOp op t x y _=>(aBin P op t (ρ x) (ρ y)).map fun v=>(v,none)
 | .unOp op _ x=>(aUn op (ρ x)).map fun v=>(v,none)
 | .convert src dst x=>(aConv P src dst (ρ x)).map fun v=>(v,none)
 | .makeFunc (.func f) first captured=>some (.func (.func f) (first.map ρ) (captured.map ρ),none)
 | .makeMap _ none=>some (.map (some sz),some (.map [] 0 false))
 | .makeSlice t l c=>(aMakeSlice P sz t (ρ l) (ρ c)).map fun r=>(r.1,some r.2)
 | .slice t x lo hi mx=>(aSlice P t (ρ x) (lo.map ρ) (hi.map ρ) (mx.map ρ)).map fun v=>(v,none)
 | .fieldAddr s x f=>(aFieldAddr P s (ρ x) f).map fun v=>(v,none)
 | .field t x f=>(aField P t (ρ x) f).map fun v=>(v,none)
 | .indexAddr t x ix=>(aIndexAddr P t (ρ x) (ρ ix)).map fun v=>(v,none)
 | .index t x ix=>(aIndex P t (ρ x) (ρ ix)).map fun v=>(v,none)
 | .extract t ix=>match ρ t with
   | .tuple vs=>(vs[ix]?).map fun v=>(v,none)
   | _=>none
 | .call c=>match c.callee with
   | .builtin b=>(aPureCall P b c.argTypes.toList (c.args.toList.map ρ)).map fun v=>(v,none)
   | _=>none
 | _=>none
def eA(cs:List Value)(off n:Nat):Option (List Value) :=
 if ((cs.drop off).take n).length=n then some ((cs.drop off).take n) else none
def aLoad(P:Program)(get:Nat→Option af)(t:TypeId)(x:Value):Option Value :=
 match x with
 | .pointer (some a)=>match get a.block with
   | some (.cells _ cs _)=>match tagg P t,bZ P t with
     | some true,some n=>(eA cs a.off n).map fun r=>.agg r.toArray
     | some false,some _=>cs[a.off]?
     | _,_=>none
   | _=>none
 | _=>none
def keyEq:TypeDesc→Value→Value→Option Bool
 | .int _,.int k a,.int k' b=>if k=k' then some (a==b) else none
 | .string,.string a,.string b=>some (iG a b)
 | .bool,.bool a,.bool b=>some (a==b)
 | _,_,_=>none
def keyKind(P:Program)(t:TypeId):Option TypeDesc :=
 match P.underlying t with
 | some (.int k)=>some (.int k)
 | some .string=>some .string
 | some .bool=>some .bool
 | _=>none
def findE(d:TypeDesc)(k:Value):List (Value×Value×Nat)→Nat→Option (Option (Nat×Value))
 | [],_=>some none
 | e::es,i=>match keyEq d k e.1 with
   | some true=>some (some (i,e.2.1))
   | some false=>findE d k es (i+1)
   | none=>none
def aLookup(P:Program)(get:Nat→Option af)(t:TypeId)(x k:Value)(ok:Bool):Option Value :=
 match P.underlying t with
 | some (.map key elem)=>match keyKind P key,(P.info? elem).bind (·.zero) with
   | some d,some z =>
     if plain z&&flat k then
       match (match x with | .map none=>some [] | .map (some r)=>(match get r with | some (.map es _ _)=>some es | _=>none) | _=>none) with
       | none=>none
       | some es=>match findE d k es 0 with
         | none=>none
         | some (some (_,v))=>some (if ok then .tuple #[v,.bool true] else v)
         | some none=>some (if ok then .tuple #[z,.bool false] else z)
     else none
   | _,_=>none
 | _=>none
def bytesOf:List Value→Option (List UInt8)
 | []=>some []
 | .int .u8 n::r=>(bytesOf r).map (UInt8.ofNat n.toNat :: ·)
 | _=>none
def aBytesToString(P:Program)(get:Nat→Option af)(src dst:TypeId)(x:Value):Option Value :=
 match P.underlying src,P.underlying dst,x with
 | some (.slice e),some .string,.slice none 0 0=>match P.underlying e with
   | some (.int .u8)=>some (.string ⟨#[]⟩)
   | _=>none
 | some (.slice e),some .string,.slice (some a) len _=>match P.underlying e,get a.block with
   | some (.int .u8),some (.cells _ cs _)=>match eA cs a.off len with
     | some r=>(bytesOf r).map fun bs=>.string ⟨bs.toArray⟩
     | none=>none
   | _,_=>none
 | _,_,_=>none
def aLenMap(P:Program)(get:Nat→Option af)(t:TypeId)(x:Value):Option Value :=
 match P.underlying t,x with
 | some (.map _ _),.map (some r)=>match get r with
   | some (.map es _ _)=>some (goInt es.length)
   | _=>none
 | _,_=>none
def aUnsafe(P:Program)(get:Nat→Option af)(src dst:TypeId)(x:Value):Option Value :=
 match P.underlying src,P.underlying dst,x with
 | some (.pointer _),some .unsafePointer,.pointer none=>some x
 | some (.pointer t),some .unsafePointer,.pointer (some a)=>match get a.block,bZ P t with
   | some (.cells _ cs _),some n=>if n=0∨cs.length≤a.off then none else some x
   | _,_=>none
 | some .unsafePointer,some (.pointer _),.pointer none=>some x
 | _,_,_=>none
def opR(P:Program)(ρ : Operand→Value)(get:Nat→Option af)(o:Oper):Option Value :=
 match o.op with
 | .load t a=>aLoad P get t (ρ a)
 | .lookup t x k ok=>aLookup P get t (ρ x) (ρ k) ok
 | .convert src dst x=>match aBytesToString P get src dst (ρ x) with
   | some v=>some v
   | none=>aUnsafe P get src dst (ρ x)
 | .call c=>match c.callee,c.argTypes.toList,c.args.toList with
   | .builtin .len,t::_,x::_=>aLenMap P get t (ρ x)
   | _,_,_=>none
 | _=>none
inductive eF where
 | put (b:Nat) (o:af):eF
 | push (o:af):eF
def aStore(P:Program)(get:Nat→Option af)(t:TypeId)(x v:Value):Option (List eF) :=
 match x with
 | .pointer (some a)=>match get a.block with
   | some (.cells ty cs false)=>match bZ P t with
     | some n=>if (cellsL v).length=n&&(cellsL v).all isOne&&a.off+n≤cs.length then some [.put a.block (.cells ty (putL cs a.off (cellsL v)) false)] else none
     | none=>none
   | _=>none
 | _=>none
def srcCells(get:Nat→Option af)(size n:Nat):Value→Option (List Value)
 | .slice none 0 0=>if n=0 then some [] else none
 | .slice (some a) len _=>if n=0 then some [] else if len<n then none else match get a.block with
   | some (.cells _ cs _)=>eA cs a.off (n*size)
   | _=>none
 | .string s=>some ((s.data.toList.take n).map fun b=>.int .u8 b.toNat)
 | _=>none
def srcLen:Value→Option Nat
 | .slice _ n _=>some n
 | .string s=>some s.size
 | _=>none
def aSrc(P:Program)(get:Nat→Option af)(size:Nat)(zero:List Value)(xd:TypeDesc)(x:Value):Option (List Value×Nat) :=
 match xd with
 | .int _=>match x with
   | .int _ n=>if 0≤n∧n≤2147483647 then some (repL zero n.toNat,n.toNat) else none
   | _=>none
 | _=>match srcLen x with
   | none=>none
   | some m=>(srcCells get size m x).map fun ns=>(ns,m)
def aAppend(P:Program)(get:Nat→Option af)(sz:Nat)(types:List TypeId)(args:List Value):Option (Value×List eF) :=
 match types,args with
 | st::xt::_,s::x::_=>match P.underlying st,P.underlying xt with
   | some (.slice elem),some xd=>match P.info? elem with
     | none=>none
     | some i=>match tzero P elem with
       | none=>none
       | some zero =>
         if i.size=0∨zero.length≠i.size∨32768<i.bytes then none else
         match aSrc P get i.size zero xd x with
         | none=>none
         | some (ns,m) =>
           if ns.all isOne=false∨ns.length≠m*i.size then none else
           match s with
           | .slice none 0 0=>if m=0 then some (s,[]) else if 2147483647<m then none else some (.slice (some ⟨sz,0,none⟩) m (3*i.size+1),[.push (.cells elem ns false)])
           | .slice (some a) len c =>
             if m=0 then some (s,[]) else if 2147483647<len+m then none else
             match get a.block with
             | some (.cells ty cs ro)=>match eA cs a.off (len*i.size) with
               | none=>none
               | some old =>
                 if c % 3=0∧c / 3 / 1000000<m then some (.slice (some ⟨sz,0,none⟩) (len+m) (3*i.size+1),[.push (.cells elem (old++ns) false)])
                 else if c=3*i.size+1∧ro=false∧ty=elem then
                   if a.off+(len+m)*i.size≤cs.length then some (.slice (some a) (len+m) c,[.put a.block (.cells ty (putL cs (a.off+len*i.size) ns) false)])
                   else some (.slice (some ⟨sz,0,none⟩) (len+m) (3*i.size+1),[.put a.block .dead,.push (.cells ty (old++ns) false)])
                 else if c % 3=0∧ro=false∧a.off+(len+m)*i.size≤cs.length then
                   some (.slice (some a) (len+m) (3*(c / 3 % 1000000+1000000*(c / 3 / 1000000-m))),[.put a.block (.cells ty (putL cs (a.off+len*i.size) ns) false)])
                 else none
             | _=>none
           | _=>none
   | _,_=>none
 | _,_=>none
def aCopy(P:Program)(get:Nat→Option af)(types:List TypeId)(args:List Value):Option (Value×List eF) :=
 match types,args with
 | dt::_,d::x::_=>match P.underlying dt with
   | some (.slice elem)=>match bZ P elem,d,srcLen x with
     | some size,.slice base dlen _,some m =>
       match srcCells get size (min m dlen) x with
       | none=>none
       | some ns =>
         if !(ns.all isOne)||ns.length≠min m dlen*size then none else
         match base with
         | none=>if min m dlen=0 then some (goInt 0,[]) else none
         | some a =>
           if min m dlen=0 then some (goInt 0,[]) else
           match get a.block with
           | some (.cells ty cs false)=>if a.off+ns.length≤cs.length then some (goInt (min m dlen:Nat),[.put a.block (.cells ty (putL cs a.off ns) false)]) else none
           | _=>none
     | _,_,_=>none
   | _=>none
 | _,_=>none
def aClear(P:Program)(get:Nat→Option af)(types:List TypeId)(args:List Value):Option (Value×List eF) :=
 match types,args with
 | t::_,x::_=>match P.underlying t,x with
   | some (.slice _),.slice none 0 0=>some (.tuple #[],[])
   | some (.slice elem),.slice (some a) len _ =>
     if len=0 then some (.tuple #[],[]) else
     match tzero P elem,get a.block with
     | some zero,some (.cells ty cs false)=>if a.off+(repL zero len).length≤cs.length then some (.tuple #[],[.put a.block (.cells ty (putL cs a.off (repL zero len)) false)]) else none
     | _,_=>none
   | _,_=>none
 | _,_=>none
def setE:List (Value×Value×Nat)→Nat→(Value×Value×Nat)→List (Value×Value×Nat)
 | [],_,_=>[]
 | _::es,0,x=>x::es
 | e::es,n+1,x=>e::setE es n x
def dropE:List (Value×Value×Nat)→Nat→List (Value×Value×Nat)
 | [],_=>[]
 | _::es,0=>es
 | e::es,n+1=>e::dropE es n
def mI:List (Value×Value×Nat)→Nat→Nat
 | [],_=>0
 | e::_,0=>e.2.2
 | _::es,n+1=>mI es n
def qW(b:Int):List (Value×Value×Nat)→Nat→Option (Nat×Value)
 | [],_=>none
 | e::es,i=>if (e.2.2:Int)==b then some (i,e.1) else qW b es (i+1)
def aUpdate(P:Program)(get:Nat→Option af)(t:TypeId)(m k v:Value):Option (List eF) :=
 match P.underlying t,m with
 | some (.map key _),.map (some r)=>match keyKind P key,get r with
   | some d,some (.map es clock false)=>match findE d k es 0 with
     | none=>none
     | some (some (i,_))=>some [.put r (.map (setE es i (k,v,mI es i)) clock false)]
     | some none=>if flat k then some [.put r (.map (es ++ [(k,v,clock)]) (clock+1) false)] else none
   | _,_=>none
 | _,_=>none
def nK(P:Program)(get:Nat→Option af)(t:TypeId)(m k:Value):Option (Value×List eF) :=
 match P.underlying t,m with
 | some (.map key elem),.map (some r)=>match keyKind P key,get r with
   | some d,some (.map es clock false)=>match findE d k es 0 with
     | none=>none
     | some (some (i,v))=>some (.tuple #[v,goInt (mI es i)],[.put r (.map (setE es i (k,v,mI es i)) clock false)])
     | some none=>match (P.info? elem).bind (·.zero) with
       | some z=>if flat k&&plain z then some (.tuple #[z,goInt clock],[.put r (.map (es ++ [(k,z,clock)]) (clock+1) false)]) else none
       | none=>none
   | _,_=>none
 | _,_=>none
def aEntryStore(get:Nat→Option af)(m s v:Value):Option (List eF) :=
 match m,s with
 | .map (some r),.int _ b=>match get r with
   | some (.map es clock false)=>match qW b es 0 with
     | some (i,k)=>some [.put r (.map (setE es i (k,v,mI es i)) clock false)]
     | none=>none
   | _=>none
 | _,_=>none
def aDelete(P:Program)(get:Nat→Option af)(types:List TypeId)(args:List Value):Option (Value×List eF) :=
 match types,args with
 | t::_,m::k::_=>match P.underlying t with
   | some (.map key _)=>match keyKind P key,m with
     | some d,.map none=>if flat k then some (.tuple #[],[]) else none
     | some d,.map (some r)=>match get r with
       | some (.map es clock false)=>match findE d k es 0 with
         | none=>none
         | some (some (i,_))=>some (.tuple #[],[.put r (.map (dropE es i) clock false)])
         | some none=>if flat k then some (.tuple #[],[]) else none
       | _=>none
     | _,_=>none
   | _=>none
 | _,_=>none
def gK(P:Program)(sz:Nat)(src dst:TypeId)(x:Value):Option (Value×List eF):=none
def opB(P:Program)(ρ : Operand→Value)(sz:Nat)(get:Nat→Option af)(o:Oper):Option (Value×List eF) :=
 match o.op with
 | .store t a v=>(aStore P get t (ρ a) (ρ v)).map fun es=>(undef,es)
 | .mapUpdate t m k v | .insert t m k v=>(aUpdate P get t (ρ m) (ρ k) (ρ v)).map fun es=>(undef,es)
 | .mapEntry t m k=>nK P get t (ρ m) (ρ k)
 | .entryStore _ m s v=>(aEntryStore get (ρ m) (ρ s) (ρ v)).map fun es=>(undef,es)
 | .convert src dst x=>gK P sz src dst (ρ x)
 | .call c=>match c.callee with
   | .builtin .append=>aAppend P get sz c.argTypes.toList (c.args.toList.map ρ)
   | .builtin .copy=>aCopy P get c.argTypes.toList (c.args.toList.map ρ)
   | .builtin .clear=>aClear P get c.argTypes.toList (c.args.toList.map ρ)
   | .builtin .delete=>aDelete P get c.argTypes.toList (c.args.toList.map ρ)
   | _=>none
 | _=>none
inductive SH where
 | pure:SH
 | read:SH
 | big:SH
def cls(P:Program)(o:Oper):SH :=
 match o.op with
 | .load .. | .lookup ..=>.read
 | .convert src dst _=>match P.underlying src,P.underlying dst with
   | some (.slice _),some .string=>.read
   | some .unsafePointer,_=>.read
   | _,some .unsafePointer=>.read
   | _,some (.slice _)=>.big
   | _,_=>.pure
 | .call c=>match c.callee with
   | .builtin .len=>match c.argTypes.toList with
     | t::_=>match P.underlying t with
       | some (.map _ _)=>.read
       | _=>.pure
     | []=>.pure
   | .builtin .min | .builtin .max | .builtin .cap=>.pure
   | _=>.big
 | .store .. | .mapUpdate .. | .insert .. | .mapEntry .. | .entryStore .. | .defer _ | .go _ | .panic _ | .send .. | .recv .. | .select .. | .range .. | .next .. | .entry _ | .ready _ | .waits _ | .typeAssert .. | .makeInterface .. | .makeChan .. | .sliceToArrayPointer ..=>.big
 | _=>.pure
def Hp.pr(h:Hp):List eF→Hp
 | []=>h
 | .put b o::es=>(h.put b o).pr es
 | .push o::es=>(h.push o).pr es
abbrev aG:=FuncId→List Value→Hp→Option (Value×Hp)
def target(ρ : Operand→Value)(c:Call):Option (FuncId×List Value) :=
 match c.callee with
 | .value f=>match ρ f with
   | .func (.func g) first captured=>some (g,first.toList++c.args.toList.map ρ ++ captured.toList)
   | _=>none
 | _=>none
def aStep(P:Program)(call:aG)(o:Oper)(st:St):Option (Value×Hp×List (FuncId×List Value)) :=
 match cls P o with
 | .pure=>match opP P st.eval st.hp.sz o with
   | some (v,none)=>some (v,st.hp,st.df)
   | some (v,some b)=>some (v,st.hp.push b,st.df)
   | none=>none
 | .read=>match opR P st.eval st.hp.get o with
   | some v=>some (v,st.hp,st.df)
   | none=>none
 | .big=>match opB P st.eval st.hp.sz st.hp.get o with
   | some (v,es)=>some (v,st.hp.pr es,st.df)
   | none=>match o.op with
     | .call c=>match target st.eval c with
       | some (f,args)=>match call f args st.hp with
         | some (v,h)=>some (v,h,st.df)
         | none=>none
       | none=>none
     | .defer c=>match target st.eval c with
       | some (f,args)=>some (undef,st.hp,(f,args)::st.df)
       | none=>none
     | _=>none
def aWanted(ops:Array Oper)(st:St)(o:Oper):Bool :=
 match o.guard with
 | none=>true
 | some (j,want)=>match (ops[j]?).bind (·.dst) with
   | some t=>match st.tm.get t with
     | some (.bool b)=>b==want
     | _=>false
   | none=>false
inductive Log where
 | read (j:Nat) (f:(Nat→Option af)→Option Value) (v:Value):Log
 | big (i:Nat) (before after:Hp):Log
def veq1:Value→Value→Bool
 | .bool a,.bool b=>a==b
 | .int k a,.int l b=>decide (k=l)&&a==b
 | .string a,.string b=>iG a b
 | .pointer none,.pointer none=>true
 | .pointer (some a),.pointer (some b)=>decide (a=b)
 | .slice none n c,.slice none m d=>Nat.beq n m&&Nat.beq c d
 | .slice (some a) n c,.slice (some b) m d=>decide (a=b)&&Nat.beq n m&&Nat.beq c d
 | .map none,.map none=>true
 | .map (some a),.map (some b)=>Nat.beq a b
 | .nilFunc,.nilFunc=>true
 | .nilIface,.nilIface=>true
 | _,_=>false
def veqL:List Value→List Value→Bool
 | [],[]=>true
 | a::asv,b::bs=>veq1 a b&&veqL asv bs
 | _,_=>false
def veq:Value→Value→Bool
 | .agg a,.agg b=>veqL a.toList b.toList
 | .tuple a,.tuple b=>veqL a.toList b.toList
 | .func (.func f) a b,.func (.func g) c d=>Nat.beq f g&&veqL a.toList c.toList&&veqL b.toList d.toList
 | a,b=>veq1 a b
def runOps(P:Program)(call:aG)(ops:Array Oper):List Oper→St→Option St
 | [],st=>some st
 | o::os,st=>match aWanted ops st o with
   | false=>runOps P call ops os (st.tput o.dst undef)
   | true=>match aStep P call o st with
     | some (v,h,d)=>runOps P call ops os ({ st with hp:=h,df:=d }.tput o.dst v)
     | none=>none
def runLog(P:Program)(call:aG)(ops:Array Oper):List Oper→Nat→St→Option (St×List Log)
 | [],_,st=>some (st,[])
 | o::os,i,st=>match aWanted ops st o with
   | false=>runLog P call ops os (i+1) (st.tput o.dst undef)
   | true=>match aStep P call o st with
     | some (v,h,d)=>match runLog P call ops os (i+1) ({ st with hp:=h,df:=d }.tput o.dst v) with
       | some (st',l)=>match cls P o with
         | .pure=>some (st',l)
         | .read=>some (st',.read i (fun get=>opR P st.eval get o) v::l)
         | .big=>some (st',.big i st.hp h::l)
       | none=>none
     | none=>none
def DU(P:Program)(o:Oper):Bool:=match cls P o with | .read=>true | _=>false
def so(P:Program)(o:Oper):Bool:=match cls P o with | .big=>true | _=>false
def js(P:Program)(ops:Array Oper):List (Nat×Nat) :=
 let b:=Region.before ops
 (ops.toList.zipIdx.filter fun x=>DU P x.1).flatMap fun x =>
   ((ops.toList.zipIdx.filter fun y=>so P y.1).filter fun y =>
     if x.2<y.2 then !(b.getD y.2 0).testBit x.2 else !(b.getD x.2 0).testBit y.2).map fun y=>(x.2,y.2)
def eE(f:(Nat→Option af)→Option Value)(v:Value)(h:Hp):Bool :=
 match f h.get with
 | some u=>veq u v
 | none=>false
def pairOk(l:List Log)(p:Nat×Nat):Bool :=
 l.all fun r=>match r with
  | .read j f v=>match Nat.beq j p.1 with
    | false=>true
    | true=>l.all fun g=>match g with
      | .big i hb ha=>match Nat.beq i p.2 with
        | false=>true
        | true=>match Nat.ble i j with
          | true=>eE f v hb
          | false=>eE f v ha
      | _=>true
  | _=>true
def aRegion(P:Program)(call:aG)(ops:Array Oper)(draw:Bool)(st:St):Option St :=
 match draw with
 | false=>runOps P call ops ops.toList st
 | true=>match js P ops with
   | []=>runOps P call ops ops.toList st
   | ps=>match runLog P call ops ops.toList 0 st with
     | some (st',l)=>match ps.all (pairOk l) with
       | true=>some st'
       | false=>none
     | none=>none
def exec(P:Program)(call:aG):Nat→Code→St→Option (Exit×St)
 | 0,_,_=>none
 | n+1,c,st=>match c with
   | .skip | .label _=>some (.normal,st)
   | .region _ ops draw=>match aRegion P call ops draw st with
     | some st'=>some (.normal,st')
     | none=>none
   | .seq a b=>match exec P call n a st with
     | some (.normal,st')=>exec P call n b st'
     | r=>r
   | .cond x a b=>match st.eval x with
     | .bool true=>exec P call n a st
     | .bool false=>exec P call n b st
     | _=>none
   | .block id body=>match exec P call n body st with
     | some (.exit i,st')=>match Nat.beq i id with
       | true=>some (.normal,st')
       | false=>some (.exit i,st')
     | r=>r
   | .loop body=>match exec P call n body st with
     | some (.normal,st')=>exec P call n (.loop body) st'
     | r=>r
   | .scope body=>exec P call n body st
   | .exit id=>some (.exit id,st)
   | .ret=>some (.ret,st)
   | _=>none
def resVar(P:Program)(st:St):ResultVar→Option Value
 | .tmp t=>some (st.dK t)
 | .cell a t=>aLoad P st.hp.get t (st.dK a)
def resVars(P:Program)(st:St):List ResultVar→Option (List Value)
 | []=>some []
 | r::rs=>match resVar P st r,resVars P st rs with
   | some v,some vs=>some (v::vs)
   | _,_=>none
def retVal(P:Program)(fn:Func)(st:St):Option Value :=
 match resVars P st fn.results.toList with
 | some [v]=>some v
 | some vs=>some (.tuple vs.toArray)
 | none=>none
def tmsOf:List Value→Nat→Tr Value→Tr Value
 | [],_,t=>t
 | v::vs,i,t=>tmsOf vs (i+1) (Tr.set v (i+1) i t)
def runDf(call:aG):List (FuncId×List Value)→Hp→Option Hp
 | [],h=>some h
 | d::ds,h=>match call d.1 d.2 h with
   | some (_,h')=>runDf call ds h'
   | none=>none
abbrev Ext:=FuncId→Option (aG→List Value→Hp→Option (Value×Hp))
def aBody(P:Program)(call:aG)(n:Nat)(fn:Func)(args:List Value)(h:Hp):Option St :=
 match fn.body with
 | none=>none
 | some c=>match Nat.ble args.length fn.ntmps with
   | false=>none
   | true=>match exec P call n c ⟨tmsOf args 0 .leaf,h,[]⟩ with
     | some (.normal,st)=>some st
     | some (.ret,st)=>some st
     | _=>none
def aPlain(P:Program)(ext:Ext)(call:aG)(n:Nat):aG:=fun f args h =>
 match ext f with
 | some _=>none
 | none=>match P.funcs[f]? with
   | none=>none
   | some fn=>match aBody P call n fn args h with
     | none=>none
     | some st=>match st.df with
       | []=>(retVal P fn st).map fun v=>(v,st.hp)
       | _::_=>none
def aCall(P:Program)(ext:Ext):Nat→FuncId→List Value→Hp→Option (Value×Hp)
 | 0,_,_,_=>none
 | n+1,f,args,h=>match ext f with
   | some e=>e (aCall P ext n) args h
   | none=>match P.funcs[f]? with
     | none=>none
     | some fn=>match aBody P (aCall P ext n) n fn args h with
       | none=>none
       | some st=>match runDf (aPlain P ext (aCall P ext n) n) st.df st.hp with
         | some h'=>(retVal P fn { st with hp:=h' }).map fun v=>(v,h')
         | none=>none
def gv:Operand→Bool
 | .tmp _=>true
 | .const v=>plain v
 | .global _=>false
 | .func _=>true
def rU(ntmps:Nat)(o:Oper):Bool :=
 (match o.dst with | some d=>decide (d<ntmps) | none=>true)&&o.op.operands.toList.all gv
def tmpsOf(ops:Array Oper)(o:Oper):List Tmp :=
 o.dst.toList++(o.op.operands.toList.filterMap fun | .tmp t=>some t | _=>none) ++
  (match o.guard with | some (j,_)=>((ops[j]?).bind (·.dst)).toList | none=>[])
def DB(P:Program)(ops:Array Oper)(x y:Oper):Bool :=
 (match x.dst with | some d=>!(tmpsOf ops y).contains d | none=>true) &&
 (match y.dst with | some d=>!(tmpsOf ops x).contains d | none=>true) &&
 !(so P x&&so P y)
def nn(P:Program)(ops:Array Oper):Bool :=
 let b:=Region.before ops
 ops.toList.zipIdx.all fun y =>
  (y.1.after.toList.all fun e=>!Region.binds .any e||decide (e.on<y.2)) &&
  (match y.1.guard with | some (j,_)=>decide (j<y.2)&&(b.getD y.2 0).testBit j | none=>true) &&
  (ops.toList.zipIdx.all fun x=>!decide (x.2<y.2)||(b.getD y.2 0).testBit x.2||DB P ops x.1 y.1)
def codeSafe(P:Program)(n:Nat):Code→Bool
 | .skip | .label _ | .exit _ | .ret=>true
 | .region _ ops draw=>ops.toList.all (rU n)&&(!draw||nn P ops)
 | .seq a b=>codeSafe P n a&&codeSafe P n b
 | .cond c a b=>gv c&&codeSafe P n a&&codeSafe P n b
 | .block _ b | .loop b | .scope b=>codeSafe P n b
 | _=>false
def l5(P:Program)(fn:Func):Bool :=
 match fn.body with
 | none=>false
 | some c=>codeSafe P fn.ntmps c && !(fn.name == "runtime.NumGoroutine")
def cellAt(h:Hp)(a:Addr):Option Value :=
 match h.get a.block with
 | some (.cells _ cs _)=>cs[a.off]?
 | _=>none
def cellPut(h:Hp)(a:Addr)(v:Value):Option Hp :=
 match h.get a.block with
 | some (.cells ty cs false)=>if a.off<cs.length&&isOne v then some (h.put a.block (.cells ty (putL cs a.off [v]) false)) else none
 | _=>none
def atLoad(k:IntKind):aG→List Value→Hp→Option (Value×Hp)
 | _,[.pointer (some a)],h=>match cellAt h a with
   | some (.int k' n)=>if k'=k then some (.int k' n,h) else none
   | _=>none
 | _,_,_=>none
def atStore:aG→List Value→Hp→Option (Value×Hp)
 | _,[.pointer (some a),v],h=>(cellPut h a v).map fun h'=>(.tuple #[],h')
 | _,_,_=>none
def atAdd(k:IntKind):aG→List Value→Hp→Option (Value×Hp)
 | _,[.pointer (some a),.int k1 d],h=>match cellAt h a with
   | some (.int k' n)=>if k'=k∧k1=k then (cellPut h a (.int k (wrapF k (n+d)))).map fun h'=>(.int k (wrapF k (n+d)),h') else none
   | _=>none
 | _,_,_=>none
def atCas(k:IntKind):aG→List Value→Hp→Option (Value×Hp)
 | _,[.pointer (some a),.int k1 old,.int k2 new],h=>match cellAt h a with
   | some (.int k' n)=>if k'=k∧k1=k∧k2=k then (match decide (n=old),h.get a.block with
     | true,_=>(cellPut h a (.int k new)).map fun h'=>(.bool true,h')
     | false,some (.cells _ _ false)=>some (.bool false,h)
     | _,_=>none) else none
   | _=>none
 | _,_,_=>none
def qY:aG→List Value→Hp→Option (Value×Hp):=fun _ _ _=>none
def noneE:aG→List Value→Hp→Option (Value×Hp)
 | _,[],h=>some (.tuple #[],h)
 | _,_,_=>none
def zI:aG→List Value→Hp→Option (Value×Hp)
 | _,[.pointer (some _)],h=>some (.tuple #[],h)
 | _,_,_=>none
def atoms:List (String×(aG→List Value→Hp→Option (Value×Hp))) :=
 [("sync/atomic.LoadInt32",atLoad .i32),("sync/atomic.LoadInt64",atLoad .i64),("sync/atomic.LoadUint32",atLoad .u32),("sync/atomic.LoadUint64",atLoad .u64),
  ("sync/atomic.StoreInt32",atStore),("sync/atomic.StoreInt64",atStore),("sync/atomic.StoreUint32",atStore),("sync/atomic.StoreUint64",atStore),
  ("sync/atomic.AddInt32",atAdd .i32),("sync/atomic.AddInt64",atAdd .i64),("sync/atomic.CompareAndSwapInt32",atCas .i32),("sync/atomic.CompareAndSwapUint32",atCas .u32),
  ("internal/race.Disable",noneE),("internal/race.Enable",noneE),("internal/race.Acquire",zI),("internal/race.ReleaseMerge",zI)]
def atomIn(name:String):List (String×(aG→List Value→Hp→Option (Value×Hp)))→Option (aG→List Value→Hp→Option (Value×Hp))
 | []=>none
 | (n,e)::r=>match decide (name=n) with
   | true=>some e
   | false=>atomIn name r
def extOf(P:Program):Ext:=fun f =>
 match P.funcs[f]? with
 | none=>some qY
 | some fn=>match fn.body with
   | none=>match decide (fn.origin = "") with
     | true=>match atomIn fn.name atoms with
       | some e=>some e
       | none=>some qY
     | false=>some qY
   | some _=>match l5 P fn with
     | true=>none
     | false=>some qY
abbrev BM:=Nat→Option (Nat×Nat×Nat)
abbrev HG:=Nat→Option af
def BE(c len cap:Nat):Prop:=len≤cap∧(c % 3=0→cap=len+c / 3 / 1000000)
theorem BE.of{c len cap:Nat}(h:len≤cap)(hc:c % 3≠0):BE c len cap:=⟨h,fun h=>absurd h hc⟩
def yR(c len cap base E:Nat):Prop:=(c % 3=0→cap=len+c / 3 / 1000000)∧(c % 3=1→base+cap*(c / 3)=E)
inductive aj (m:BM) (h:HG):Value→Value→Prop where
 | flat {v:Value}:flat v=true→aj m h v v
 | ptr {b off r off':Nat}:(h b=some .dead∨∃ δ E,m b=some (r,δ,E)∧off' = δ + off) →
   aj m h (.pointer (some ⟨b,off,none⟩)) (.pointer (some ⟨r,off',none⟩))
 | slice {b off len c r off' cap:Nat}:BE c len cap →
   (h b=some .dead∨∃ δ E,m b=some (r,δ,E)∧(off' = δ + off∨cap=0)∧yR c len cap (δ + off) E) →
   aj m h (.slice (some ⟨b,off,none⟩) len c) (.slice (some ⟨r,off',none⟩) len cap)
 | blind {n cap:Nat} {a:Addr}:n≤cap→aj m h (.chan (some n)) (.slice (some a) n cap)
 | blind0:aj m h (.chan (some 0)) (.slice none 0 0)
 | junk {v:Value}:(∀ b,v≠.bool b)→aj m h (.chan none) v
 | map {b r:Nat}:(h b=some .dead∨∃ x,m b=some (r,x))→aj m h (.map (some b)) (.map (some r))
 | func {f:FuncId} {a a' c c':Array Value}:a.size=a'.size→(∀ (i:Nat) (v v':Value),a[i]? = some v→a'[i]? = some v'→aj m h v v') →
   c.size=c'.size→(∀ (i:Nat) (v v':Value),c[i]? = some v→c'[i]? = some v'→aj m h v v')→aj m h (.func (.func f) a c) (.func (.func f) a' c')
 | agg {a a':Array Value}:a.size=a'.size→(∀ (i:Nat) (v v':Value),a[i]? = some v→a'[i]? = some v'→aj m h v v')→aj m h (.agg a) (.agg a')
 | tuple {a a':Array Value}:a.size=a'.size→(∀ (i:Nat) (v v':Value),a[i]? = some v→a'[i]? = some v'→aj m h v v')→aj m h (.tuple a) (.tuple a')
def aD(m:BM)(h:HG)(asv bs:List Value):Prop:=asv.length=bs.length∧∀ (i:Nat) (v v':Value),asv[i]? = some v→bs[i]? = some v'→aj m h v v'
def iS(m:BM)(h:HG)(asv bs:Array Value):Prop:=asv.size=bs.size∧∀ (i:Nat) (v v':Value),asv[i]? = some v→bs[i]? = some v'→aj m h v v'
theorem iS.toList{m:BM}{h:HG}{asv bs:Array Value}(r:iS m h asv bs):aD m h asv.toList bs.toList :=
 ⟨by simpa using r.1,fun i v v' h1 h2=>r.2 i v v' (by simpa using h1) (by simpa using h2)⟩
theorem aD.toArray{m:BM}{h:HG}{asv bs:List Value}(r:aD m h asv bs):iS m h asv.toArray bs.toArray :=
 ⟨by simpa using r.1,fun i v v' h1 h2=>r.2 i v v' (by simpa using h1) (by simpa using h2)⟩
theorem aD.nil{m:BM}{h:HG}:aD m h [] []:=⟨rfl,fun i v v' h1 _=>by simp at h1⟩
theorem aD.cons{m:BM}{h:HG}{a b:Value}{asv bs:List Value}(r:aj m h a b)(rs:aD m h asv bs):aD m h (a::asv) (b::bs) :=
 ⟨by simp [rs.1],fun i v v' h1 h2=>by
  cases i with
  | zero=>simp at h1 h2; subst h1; subst h2; exact r
  | succ i=>exact rs.2 i v v' (by simpa using h1) (by simpa using h2)⟩
theorem aD.of_cons{m:BM}{h:HG}{a:Value}{asv bs:List Value}(r:aD m h (a::asv) bs):∃ b bs',bs=b::bs'∧aj m h a b∧aD m h asv bs':=by
 cases bs with
 | nil=>simp [aD] at r
 | cons b bs =>
   refine ⟨b,bs,rfl,r.2 0 a b rfl rfl,by simpa using r.1,fun i v v' h1 h2=>r.2 (i+1) v v' (by simpa using h1) (by simpa using h2)⟩
theorem aD.of_nil{m:BM}{h:HG}{bs:List Value}(r:aD m h [] bs):bs = []:=by
 have:=r.1; simp at this; exact List.eq_nil_of_length_eq_zero this.symm
theorem aD.append{m:BM}{h:HG}{asv bs cs ds:List Value}(r:aD m h asv bs)(s:aD m h cs ds):aD m h (asv++cs) (bs++ds):=by
 induction asv generalizing bs with
 | nil=>rw [r.of_nil]; exact s
 | cons a asv ih =>
   obtain ⟨b,bs',rfl,h1,h2⟩:=r.of_cons;exact aD.cons h1 (ih h2)
theorem aD.drop{m:BM}{h:HG}{asv bs:List Value}(r:aD m h asv bs)(n:Nat):aD m h (asv.drop n) (bs.drop n) :=
 ⟨by simp [r.1],fun i v v' h1 h2=>r.2 (n+i) v v' (by simpa using h1) (by simpa using h2)⟩
theorem aD.take{m:BM}{h:HG}{asv bs:List Value}(r:aD m h asv bs)(n:Nat):aD m h (asv.take n) (bs.take n) :=
 ⟨by simp [r.1],fun i v v' h1 h2=>by
  rw [List.getElem?_take] at h1 h2
  split at h1
  ·rename_i hi; rw [if_pos hi] at h2; exact r.2 i v v' h1 h2
  ·cases h1⟩
theorem aj.of_flat{m:BM}{h:HG}{v v':Value}(hf:AI.flat v=true)(r:aj m h v v'):v'=v:=by
 cases r <;> first | rfl | (simp [AI.flat] at hf)
theorem aD.qC{m:BM}{h:HG}:∀ {asv bs:List Value},asv.all AI.flat=true→aD m h asv bs→bs=asv
 | [],bs,_,r=>r.of_nil
 | a::asv,bs,hf,r=>by
   obtain ⟨b,bs',rfl,h1,h2⟩:=r.of_cons;simp only [List.all_cons,Bool.and_eq_true] at hf;rw [h1.of_flat hf.1,aD.qC hf.2 h2]
theorem aD.jc{m:BM}{h:HG}:∀ {asv:List Value},asv.all AI.flat=true→aD m h asv asv
 | [],_=>aD.nil
 | a::asv,hf=>by
   simp only [List.all_cons,Bool.and_eq_true] at hf;exact aD.cons (.flat hf.1) (aD.jc hf.2)
theorem aj.Ar{m:BM}{h:HG}{asv bs:List Value}(r:aD m h asv bs):aj m h (.agg asv.toArray) (.agg bs.toArray):=.agg r.toArray.1 r.toArray.2
theorem aj.plain{m:BM}{h:HG}{v:Value}(hp:AI.plain v=true):aj m h v v:=by
 cases v with
 | agg cs =>
   have:=aD.jc (m:=m) (h:=h) (asv:=cs.toList) (by simpa [AI.plain] using hp)
   simpa using aj.Ar this
 | func fn a b =>
   cases fn <;> simp [AI.plain,AI.flat] at hp
   obtain ⟨rfl,rfl⟩:=hp;exact .func rfl (fun i v v' h1 _=>by simp at h1) rfl (fun i v v' h1 _=>by simp at h1)
 | _=>exact .flat (by simpa [AI.plain] using hp)
theorem aj.undef{m:BM}{h:HG}:aj m h Go.undef Go.undef:=.tuple rfl fun i v v' h1 _=>by simp at h1
theorem aj.fn{m:BM}{h:HG}(f:FuncId):aj m h (.func (.func f) #[] #[]) (.func (.func f) #[] #[]) :=
 .func rfl (fun i v v' h1 _=>by simp at h1) rfl (fun i v v' h1 _=>by simp at h1)
theorem aj.of_bool{m:BM}{h:HG}{b:Bool}{v:Value}(r:aj m h (.bool b) v):v = .bool b:=r.of_flat rfl
theorem aj.of_int{m:BM}{h:HG}{k:IntKind}{n:Int}{v:Value}(r:aj m h (.int k n) v):v = .int k n:=r.of_flat rfl
theorem aj.of_string{m:BM}{h:HG}{s:ByteArray}{v:Value}(r:aj m h (.string s) v):v = .string s:=r.of_flat rfl
theorem aj.gZ{m:BM}{h:HG}{a:Array Value}{v:Value}(r:aj m h (.agg a) v):∃ a',v = .agg a'∧iS m h a a':=by
 cases r with
 | flat hf=>simp [AI.flat] at hf
 | agg h1 h2=>exact ⟨_,rfl,h1,h2⟩
theorem aj.kx{m:BM}{h:HG}{a:Array Value}{v:Value}(r:aj m h (.tuple a) v):∃ a',v = .tuple a'∧iS m h a a':=by
 cases r with
 | flat hf=>simp [AI.flat] at hf
 | tuple h1 h2=>exact ⟨_,rfl,h1,h2⟩
theorem aj.fG{m:BM}{h:HG}{a:Addr}{v:Value}(r:aj m h (.pointer (some a)) v):∃ b off r off',a=⟨b,off,none⟩∧v = .pointer (some ⟨r,off',none⟩) ∧
  (h b=some .dead∨∃ δ E,m b=some (r,δ,E)∧off' = δ + off):=by
 cases r with
 | flat hf=>simp [AI.flat] at hf
 | ptr h1=>exact ⟨_,_,_,_,rfl,rfl,h1⟩
theorem aj.of_slice{m:BM}{h:HG}{a:Addr}{len c:Nat}{v:Value}(r:aj m h (.slice (some a) len c) v):∃ b off r off' cap,a=⟨b,off,none⟩ ∧
  v = .slice (some ⟨r,off',none⟩) len cap∧len≤cap∧(h b=some .dead∨∃ δ E,m b=some (r,δ,E)∧(off' = δ + off∨cap=0)∧yR c len cap (δ + off) E):=by
 cases r with
 | flat hf=>simp [AI.flat] at hf
 | slice h0 h1=>exact ⟨_,_,_,_,_,rfl,rfl,h0.1,h1⟩
theorem aj.dM{m:BM}{h:HG}{a:Addr}{len c:Nat}{v:Value}(r:aj m h (.slice (some a) len c) v):∃ b off r off' cap,a=⟨b,off,none⟩ ∧
  v = .slice (some ⟨r,off',none⟩) len cap∧BE c len cap∧(h b=some .dead∨∃ δ E,m b=some (r,δ,E)∧(off' = δ + off∨cap=0)∧yR c len cap (δ + off) E):=by
 cases r with
 | flat hf=>simp [AI.flat] at hf
 | slice h0 h1=>exact ⟨_,_,_,_,_,rfl,rfl,h0,h1⟩
theorem aj.dY{m:BM}{h:HG}{len c:Nat}{v:Value}(r:aj m h (.slice none len c) v):len=0∧c=0∧v = .slice none 0 0:=by
 cases r with
 | flat hf =>
   cases len with
   | succ n=>simp [AI.flat] at hf
   | zero=>cases c with
     | succ n=>simp [AI.flat] at hf
     | zero=>exact ⟨rfl,rfl,rfl⟩
theorem aj.of_map{m:BM}{h:HG}{b:Nat}{v:Value}(r:aj m h (.map (some b)) v):∃ r,v = .map (some r)∧(h b=some .dead∨∃ x,m b=some (r,x)):=by
 cases r with
 | flat hf=>simp [AI.flat] at hf
 | map h1=>exact ⟨_,rfl,h1⟩
theorem aj.zQ{m:BM}{h:HG}{f:FuncId}{a c:Array Value}{v:Value}(r:aj m h (.func (.func f) a c) v) :
  ∃ a' c',v = .func (.func f) a' c'∧iS m h a a'∧iS m h c c':=by
 cases r with
 | flat hf=>simp [AI.flat] at hf
 | func h1 h2 h3 h4=>exact ⟨_,_,rfl,⟨h1,h2⟩,h3,h4⟩
theorem bg(v:Value):v.cells.toList=cellsL v:=by cases v <;> rfl
theorem aj.cells{m:BM}{h:HG}{v v':Value}(r:aj m h v v')(hj:isJunk v=false):aD m h (cellsL v) (cellsL v'):=by
 cases r with
 | agg h1 h2=>exact iS.toList ⟨h1,h2⟩
 | flat hf =>
   have:cellsL v = [v]:=by cases v <;> first | rfl | (simp [AI.flat] at hf)
   rw [this]; exact .cons (.flat hf) .nil
 | ptr h1=>exact .cons (.ptr h1) .nil
 | slice h0 h1=>exact .cons (.slice h0 h1) .nil
 | blind h1=>exact .cons (.blind h1) .nil
 | blind0=>exact .cons .blind0 .nil
 | junk=>cases hj
 | map h1=>exact .cons (.map h1) .nil
 | func h1 h2 h3 h4=>exact .cons (.func h1 h2 h3 h4) .nil
 | tuple h1 h2=>exact .cons (.tuple h1 h2) .nil
theorem aj.isOne{m:BM}{h:HG}{v v':Value}(r:aj m h v v')(ho:AI.isOne v=true):v'.oneCell'=true:=by
 cases r with
 | agg h1 h2=>simp [AI.isOne] at ho
 | tuple h1 h2=>simp [AI.isOne] at ho
 | junk=>simp [AI.isOne] at ho
 | flat hf=>cases v <;> first | rfl | (simp [AI.flat] at hf)
 | _=>rfl
structure Le (m:BM) (h:HG) (m':BM) (h':HG):Prop where
 dead:∀ b,h b=some .dead→h' b=some .dead
 keep:∀ b x,m b=some x→h' b=some .dead∨m' b=some x
theorem Le.refl(m:BM)(h:HG):Le m h m h:=⟨fun _ h=>h,fun _ _ h=>.inr h⟩
theorem Le.trans{m1 m2 m3:BM}{h1 h2 h3:HG}(a:Le m1 h1 m2 h2)(b:Le m2 h2 m3 h3):Le m1 h1 m3 h3 :=
 ⟨fun x hx=>b.dead x (a.dead x hx),fun x y hx=>by
  rcases a.keep x y hx with h | h
  ·exact .inl (b.dead x h)
  ·exact b.keep x y h⟩
theorem aj.mono{m m':BM}{h h':HG}(l:Le m h m' h'){v v':Value}(r:aj m h v v'):aj m' h' v v':=by
 induction r with
 | flat hf=>exact .flat hf
 | ptr h1 =>
   refine .ptr ?_
   rcases h1 with h1 | ⟨δ,E,h1,h2⟩
   ·exact .inl (l.dead _ h1)
   ·rcases l.keep _ _ h1 with h3 | h3
    ·exact .inl h3
    ·exact .inr ⟨δ,E,h3,h2⟩
 | slice h0 h1 =>
   refine .slice h0 ?_
   rcases h1 with h1 | ⟨δ,E,h1,h2⟩
   ·exact .inl (l.dead _ h1)
   ·rcases l.keep _ _ h1 with h3 | h3
    ·exact .inl h3
    ·exact .inr ⟨δ,E,h3,h2⟩
 | map h1 =>
   refine .map ?_
   rcases h1 with h1 | ⟨x,h1⟩
   ·exact .inl (l.dead _ h1)
   ·rcases l.keep _ _ h1 with h3 | h3
    ·exact .inl h3
    ·exact .inr ⟨x,h3⟩
 | blind h1=>exact .blind h1
 | blind0=>exact .blind0
 | junk h1=>exact .junk h1
 | func h1 _ h3 _ ih1 ih2=>exact .func h1 ih1 h3 ih2
 | agg h1 _ ih=>exact .agg h1 ih
 | tuple h1 _ ih=>exact .tuple h1 ih
theorem aD.mono{m m':BM}{h h':HG}(l:Le m h m' h'){asv bs:List Value}(r:aD m h asv bs):aD m' h' asv bs :=
 ⟨r.1,fun i v v' h1 h2=>(r.2 i v v' h1 h2).mono l⟩
def rw?(h:HG)(b:Nat):Bool :=
 match h b with
 | some (.cells _ _ ro)=>!ro
 | some (.map _ _ ro)=>!ro
 | _=>false
def aV(h:HG)(b:Nat):Bool :=
 match h b with
 | some .dead | none=>false
 | _=>true
def jl(m:BM)(h:HG)(es:List (Value×Value×Nat))(fs:Array MapEntry):Prop :=
 es.length=fs.size∧∀ (i:Nat) (e:Value×Value×Nat) (f:MapEntry),es[i]? = some e→fs[i]? = some f→AI.flat e.1=true∧f.key=e.1∧aj m h e.2.1 f.val∧f.born=e.2.2
def keysBox:List Value→Bool
 | [.map (some _)]=>true
 | _=>false
def BRel(m:BM)(h:HG)(w:World)(x:Nat×Nat×Nat):af→Prop
 | .cells ty cs ro=>∃ c fr,w.heap[x.1]? = some (.cells c ty fr)∧x.2.1+cs.length≤x.2.2∧x.2.2≤c.size ∧
   (∀ (i:Nat) (v v':Value),cs[i]? = some v→c[x.2.1+i]? = some v'→aj m h v v')∧((ro=false→∀ j,j≤c.size→¬ (fr.1≤j∧j<fr.2))∧(ro=true→keysBox cs=true→x.2.1=0))
 | .map es clock ro=>∃ fs,w.heap[x.1]? = some (.map fs clock)∧jl m h es fs
 | .dead=>True
structure cg (m:BM) (h:HG) (w:World):Prop where
 dom:∀ b x,m b=some x→∃ o,h b=some o∧BRel m h w x o
 inj:∀ b b' x x',m b=some x→m b'=some x'→rw? h b=true→aV h b'=true→x.1=x'.1→b=b'
theorem cg.lt{m:BM}{h:HG}{w:World}(s:cg m h w){b:Nat}{x:Nat×Nat×Nat}(hb:m b=some x)(hl:aV h b=true):x.1<w.heap.size:=by
 obtain ⟨o,ho,hr⟩:=s.dom b x hb;cases o with
 | cells ty cs ro=>obtain ⟨c,fr,hc,_⟩:=hr; exact (Array.getElem?_eq_some_iff.1 hc).1
 | map es cl ro=>obtain ⟨fs,hc,_⟩:=hr; exact (Array.getElem?_eq_some_iff.1 hc).1
 | dead=>simp [aV,ho] at hl
def Dr:Prop:=True
structure Tp (w' w:World):Prop where
 eq:w'.tape=w.tape
 dr:Dr→w.drawn≤w'.drawn
theorem Tp.refl(w:World):Tp w w:=⟨rfl,fun _=>Nat.le_refl _⟩
theorem Tp.trans{a b c:World}(h:Tp a b)(k:Tp b c):Tp a c:=⟨h.eq.trans k.eq,fun d=>Nat.le_trans (k.dr d) (h.dr d)⟩
structure IU (B:Nat) (w w':World):Prop where
 os:w'.os=w.os
 tape:Tp w' w
 output:w'.output=w.output
 size:w.heap.size≤w'.heap.size
 block:∀ k,k<B→w'.heap[k]? = w.heap[k]?
theorem IU.below{B:Nat}{w w':World}(b:IU B w w'):Go.RowKit.Below B w w':=⟨b.os,b.tape.eq,b.output,b.size,b.block⟩
structure dR (m:BM) (h:HG) (w:World) (m':BM) (h':HG) (w':World):Prop where
 le:Le m h m' h'
 sim:cg m' h' w'
 size:w.heap.size≤w'.heap.size
 new:∀ b x,m' b=some x→m b=some x∨w.heap.size≤x.1∨∃ b0 x0,m b0=some x0∧rw? h b0=true∧x0.1=x.1
 frame:∀ r,r<w.heap.size→(∀ b x,m b=some x→rw? h b=true→x.1≠r)→w'.heap[r]? = w.heap[r]?
 un:∀ b o,h b=some o→m b=none→m' b=none
 idle:∀ b o,h b=some o→m b=none→h' b=some o
 ex:∀ b o,h b=some o→∃ o',h' b=some o'
 rwb:∀ b x,m b=some x→rw? h' b=true→rw? h b=true
 os:w'.os=w.os
 tape:Tp w' w
 output:w'.output=w.output
theorem cg.heap{m:BM}{h:HG}{w w':World}(s:cg m h w)(e:w'.heap=w.heap):cg m h w':=by
 refine ⟨fun b x hx=>?_,s.inj⟩
 obtain ⟨o,ho,hr⟩:=s.dom b x hx;refine ⟨o,ho,?_⟩
 cases o <;> simp only [BRel,e] at hr ⊢ <;> exact hr
theorem dR.refl{m:BM}{h:HG}{w:World}(s:cg m h w):dR m h w m h w :=
 ⟨Le.refl _ _,s,Nat.le_refl _,fun _ _ hx=>.inl hx,fun _ _ _=>rfl,fun _ _ _ hm=>hm,fun _ _ ho _=>ho,fun _ o ho=>⟨o,ho⟩,fun _ _ _ hr=>hr,rfl,.refl _,rfl⟩
theorem dR.heap{m m':BM}{h h':HG}{w w0 w':World}(g:dR m h w0 m' h' w')(e:w0.heap=w.heap)(e1:w0.os=w.os)(e2:Tp w0 w)(e3:w0.output=w.output):dR m h w m' h' w' :=
 ⟨g.le,g.sim,by rw [← e]; exact g.size,fun b x hx=>by rw [← e]; exact g.new b x hx,fun r hr hb=>by rw [← e] at hr ⊢; exact g.frame r hr hb,g.un,g.idle,g.ex,g.rwb,g.os.trans e1,g.tape.trans e2,g.output.trans e3⟩
theorem dR.trans{m m1 m2:BM}{h h1 h2:HG}{w w1 w2:World}(a:dR m h w m1 h1 w1)(b:dR m1 h1 w1 m2 h2 w2):dR m h w m2 h2 w2:=by
 refine ⟨a.le.trans b.le,b.sim,Nat.le_trans a.size b.size,?_,?_,?_,fun c o ho hm=>b.idle c o (a.idle c o ho hm) (a.un c o ho hm),?_,?_,b.os.trans a.os,b.tape.trans a.tape,b.output.trans a.output⟩
 ·intro c x hx
  rcases b.new c x hx with hx | hx | ⟨b0,x0,hx0,hr0,e0⟩
  ·exact a.new c x hx
  ·exact .inr (.inl (Nat.le_trans a.size hx))
  ·rcases a.new b0 x0 hx0 with h3 | h3 | ⟨b1,x1,hx1,hr1,e1⟩
   ·exact .inr (.inr ⟨b0,x0,h3,a.rwb b0 x0 h3 hr0,e0⟩)
   ·exact .inr (.inl (by rw [← e0]; exact h3))
   ·exact .inr (.inr ⟨b1,x1,hx1,hr1,e1.trans e0⟩)
 ·intro r hr hh
  rw [b.frame r (Nat.lt_of_lt_of_le hr a.size) ?_,a.frame r hr hh]
  intro c x hx hrw e;rcases a.new c x hx with h3 | h3 | ⟨b1,x1,hx1,hr1,e1⟩
  ·exact hh c x h3 (a.rwb c x h3 hrw) e
  ·omega
  ·exact hh b1 x1 hx1 hr1 (e1.trans e)
 ·intro c o ho hm
  obtain ⟨o',ho'⟩:=a.ex c o ho;exact b.un c o' ho' (a.un c o ho hm)
 ·intro c o ho
  obtain ⟨o',ho'⟩:=a.ex c o ho;exact b.ex c o' ho'
 ·intro c x hx hrw
  rcases a.le.keep c x hx with hd | hk
  ·have:=b.le.dead c hd
   unfold rw? at hrw;rw [this] at hrw;simp at hrw
  ·exact a.rwb c x hx (b.rwb c x hk hrw)
theorem c8{h:HG}{b:Nat}(hr:rw? h b=true):aV h b=true:=by
 unfold rw? at hr; unfold aV;split at hr <;> simp_all
section
variable {P:Program} {w:World} {m:BM} {h:HG}
theorem ef{t:TypeId}{i:TypeInfo}(hi:P.info? t=some i):(typeInfo t).run P w = .ok i w:=by simp [typeInfo,hi]
theorem bB{t:TypeId}{n:Nat}(hn:bZ P t=some n):(sizeOf t).run P w = .ok n w:=by
 unfold bZ at hn;cases hi:P.info? t with
 | none=>simp [hi] at hn
 | some i=>simp [hi] at hn; subst hn; simp [sizeOf,ef hi]
theorem al{t:TypeId}{d:TypeDesc}(hd:P.underlying t=some d):(underlying t).run P w = .ok d w:=run_underlying hd w
theorem pN{t:TypeId}{b:Bool}(hb:tagg P t=some b):(isAgg t).run P w = .ok b w:=by
 unfold tagg at hb;cases hd:P.underlying t with
 | none=>simp [hd] at hb
 | some d =>
   simp only [hd] at hb;simp only [isAgg,Sem.run_bind,al hd,Result.andThen_ok];cases d <;> simp at hb <;> subst hb <;> rfl
theorem nv{t:TypeId}{z:List Value}(hz:tzero P t=some z):∃ v,(zeroValue t).run P w = .ok v w∧cellsL v=z∧z.all AI.flat=true:=by
 unfold tzero at hz;cases hi:P.info? t with
 | none=>simp [hi] at hz
 | some i =>
   simp only [hi,Option.bind_some] at hz;cases hv:i.zero with
   | none=>simp [hv] at hz
   | some v =>
     simp only [hv] at hz;split at hz
     ·rename_i ha; cases hz
      exact ⟨v,by simp [zeroValue,ef hi,hv],rfl,ha⟩
     ·cases hz
theorem nu{t:TypeId}{cs cs':Array Value}{off:Nat}{v:Value}(hp:partA P t cs off=some v)(r:iS m h cs cs') :
  ∃ v',(part t cs' off).run P w = .ok v' w∧aj m h v v':=by
 unfold partA at hp;split at hp
 ·rename_i n ha hn
  cases hp;refine ⟨.agg (cs'.extract off (off+n)),by simp [part,pN ha,bB hn],?_⟩
  have h1:=(r.toList.drop off).take n
  have h2:=aj.Ar h1
  have e:∀ x:Array Value,((x.toList.drop off).take n).toArray=x.extract off (off+n):=by
    intro x;apply Array.ext'
    simp
  rwa [e,e] at h2
 ·rename_i n ha hn
  have hs:off<cs.size:=(Array.getElem?_eq_some_iff.1 hp).1
  have hs':off<cs'.size:=r.1▸hs
  refine ⟨cs'[off],?_,r.2 off v cs'[off] hp (Array.getElem?_eq_getElem hs')⟩
  simp [part,pN ha,Array.getElem?_eq_getElem hs']
 ·cases hp
theorem ji(k:IntKind)(n:Int):wrapF k n=k.wrap n:=by
 unfold wrapF;split
 ·rename_i hr
  cases k <;> simp [inR] at hr <;> simp only [IntKind.wrap,IntKind.signed,IntKind.bits] <;> (try simp only [Bool.true_and,Bool.false_and])
  ·split <;> simp_all <;> omega
  ·split <;> simp_all <;> omega
 ·rfl
theorem wZ(x y:ByteArray):iG x y=(x.toList==y.toList):=by unfold iG; rw [Lib.toList_data,Lib.toList_data]
theorem oh(x y:ByteArray):iG x y=(x==y):=by rw [wZ,beq_toListBytes]
theorem Bl(x y:ByteArray):yE x y=x++y:=by
 unfold yE;apply ByteArray.ext
 simp
theorem uV{op:BinOp}{t:TypeId}{k:IntKind}{a b:Int}{v:Value}(hv:aBinI op k a b=some v) :
  (binOp op t (.int k a) (.int k b)).run P w = .ok v w∧AI.flat v=true:=by
 cases op <;> simp only [aBinI] at hv <;> (try split at hv) <;> (try cases hv) <;> (try contradiction) <;>
  refine ⟨?_,rfl⟩ <;> simp_all [binOp,Op.intArith,Op.intDiv,Op.intBits,Op.intCmp,ji]
theorem mE{op:BinOp}{t:TypeId}{k k':IntKind}{a b:Int}{v:Value}(ho:op = .shl∨op = .shr)(hv:aShift op k a b=some v) :
  (binOp op t (.int k a) (.int k' b)).run P w = .ok v w∧AI.flat v=true:=by
 unfold aShift at hv;split at hv
 ·cases hv
 ·rename_i hb
  rcases ho with rfl | rfl <;> simp only at hv <;> cases hv <;> refine ⟨?_,rfl⟩ <;> simp [binOp,Op.shift,hb,ji]
theorem uW{op:BinOp}{t:TypeId}{x y:ByteArray}{v:Value}(hv:aBinS op x y=some v) :
  (binOp op t (.string x) (.string y)).run P w = .ok v w∧AI.flat v=true:=by
 cases op <;> simp only [aBinS] at hv <;> (try split at hv) <;> (try cases hv) <;> (try contradiction) <;>
  refine ⟨?_,rfl⟩ <;> simp [binOp,Op.stringOp,wZ,Bl,Lib.toList_data]
 rename_i hs;omega
theorem iT:∀ (d:Nat) {t:TypeId} {x y x' y':Value} {r:Bool},aEq P d t x y=some r→aj m h x x'→aj m h y y' →
  ∀ D,d≤D→(Op.equalIn D t x' y').run P w = .ok r w
 | 0,t,x,y,x',y',r,he,rx,ry,D,hD=>by simp [aEq] at he
 | d+1,t,x,y,x',y',r,he,rx,ry,D,hD=>by
   obtain ⟨D,rfl⟩:∃ k,D=k+1:=⟨D-1,by omega⟩
   have ih:=fun {t:TypeId} {x y x' y':Value} {r:Bool}=>iT d (t:=t) (x:=x) (y:=y) (x':=x') (y':=y') (r:=r)
   unfold aEq at he;split at he
   ·rename_i hu; cases he; rw [rx.of_bool,ry.of_bool]; simp [Op.equalIn,al hu]
   ·rename_i hu
    split at he
    ·rename_i hk; cases he; rw [rx.of_int,ry.of_int]; simp [Op.equalIn,al hu,hk]
    ·cases he
   ·rename_i hu; cases he; rw [rx.of_string,ry.of_string]; simp [Op.equalIn,al hu,oh]
   ·rename_i hu; cases he
    obtain rfl:=rx.of_flat rfl;rename_i b;cases b with
    | none=>obtain rfl:=ry.of_flat rfl; simp [Op.equalIn,al hu]
    | some a=>obtain ⟨_,_,_,_,_,rfl,_⟩:=ry.fG; simp [Op.equalIn,al hu]
   ·rename_i hu; cases he
    obtain ⟨_,_,_,_,_,rfl,_⟩:=rx.fG;obtain rfl:=ry.of_flat rfl;simp [Op.equalIn,al hu]
   ·rename_i hu; cases he
    obtain ⟨_,_,rfl⟩:=rx.dY;rename_i b _ _ _ _;cases b with
    | none=>obtain ⟨_,_,rfl⟩:=ry.dY; simp [Op.equalIn,al hu]
    | some a=>obtain ⟨_,_,_,_,_,_,rfl,_,_⟩:=ry.of_slice; simp [Op.equalIn,al hu]
   ·rename_i hu; cases he
    obtain ⟨_,_,_,_,_,_,rfl,_,_⟩:=rx.of_slice;obtain ⟨_,_,rfl⟩:=ry.dY;simp [Op.equalIn,al hu]
   ·rename_i hu; cases he
    obtain rfl:=rx.of_flat rfl;rename_i b;cases b with
    | none=>obtain rfl:=ry.of_flat rfl; simp [Op.equalIn,al hu]
    | some a=>obtain ⟨_,rfl,_⟩:=ry.of_map; simp [Op.equalIn,al hu]
   ·rename_i hu; cases he
    obtain ⟨_,rfl,_⟩:=rx.of_map;obtain rfl:=ry.of_flat rfl;simp [Op.equalIn,al hu]
   ·rename_i hu; cases he; obtain rfl:=rx.of_flat rfl; obtain rfl:=ry.of_flat rfl; simp [Op.equalIn,al hu]
   ·rename_i fn _ _ hu; cases he; obtain rfl:=rx.of_flat rfl
    cases ry with
    | flat hf=>simp [AI.flat] at hf
    | func=>simp [Op.equalIn,al hu]
   ·rename_i fn _ _ hu; cases he; obtain rfl:=ry.of_flat rfl
    cases rx with
    | flat hf=>simp [AI.flat] at hf
    | func=>simp [Op.equalIn,al hu]
   ·rename_i fs xs ys hu
    obtain ⟨xs',rfl,rx'⟩:=rx.gZ;obtain ⟨ys',rfl,ry'⟩:=ry.gZ;split at he
    ·cases he
    ·rename_i hp
     have hf:P.fieldsOf t=fs:=by simp [Program.fieldsOf,hu]
     rw [run_equalIn_struct (P:=P) w D t xs' ys' (by rw [hf]; exact hu) hp,hf]
     clear hf hp hu;generalize fs.toList=l at he;induction l generalizing r with
     | nil=>simp at he; subst he; simp [Op.eqFields]
     | cons f l ihl =>
       simp only [List.foldr_cons] at he;split at he
       ·rename_i hn
        have hn':¬ (f.name ≠ "_"):=by simpa using hn
        rw [Op.eqFields,if_neg hn'];exact ihl _ he
       ·rename_i hn
        have hn':f.name ≠ "_":=by simpa using hn
        split at he
        ·rename_i a b ha hb
         obtain ⟨a',ha',ra⟩:=nu (P:=P) (w:=w) ha rx';obtain ⟨b',hb',rb⟩:=nu (P:=P) (w:=w) hb ry';rw [Op.eqFields,if_pos hn'];simp only [Sem.run_bind,ha',hb',Result.andThen_ok];split at he
         ·rename_i hab
          rw [ih hab ra rb D (by omega)]
          simpa using ihl _ he
         ·rename_i hab
          rw [ih hab ra rb D (by omega)]
          cases he;simp
         ·cases he
        ·cases he
   ·cases he
theorem jK{op:BinOp}{t:TypeId}{ox oy:Operand}{a b:Value}(ha:eqKind a=true∨(∃ k n,a = .int k n)∨∃ s,a = .string s):(eqGuard op t ox oy a b).run P w = .ok () w:=by
 unfold eqGuard;rcases ha with ha | ⟨k,n,rfl⟩ | ⟨s,rfl⟩
 ·cases op <;> simp <;> (cases a <;> simp_all [eqKind])
 ·cases op <;> simp
 ·cases op <;> simp
theorem rW{op:BinOp}{t:TypeId}{ox oy:Operand}{xs ys:Array Value}(hg:P.eqGuardType P.depth t=false):(eqGuard op t ox oy (.agg xs) (.agg ys)).run P w = .ok () w:=by
 unfold eqGuard;cases op <;> simp [hg]
theorem aj.eqKind{x x':Value}(r:aj m h x x')(hk:AI.eqKind x=true):AI.eqKind x'=true:=by
 cases r with
 | flat hf=>exact hk
 | agg=>simp [AI.eqKind] at hk
 | tuple=>simp [AI.eqKind] at hk
 | junk=>simp [AI.eqKind] at hk
 | _=>rfl
theorem binOp_eql{t:TypeId}{x y:Value}(hx:eqKind x=true)(hy:eqKind y=true):binOp .eql t x y=(do pure (.bool (← Op.equal t x y))):=by
 cases x <;> simp [eqKind] at hx <;> cases y <;> simp [eqKind] at hy <;> rfl
theorem binOp_neq{t:TypeId}{x y:Value}(hx:eqKind x=true)(hy:eqKind y=true):binOp .neq t x y=(do pure (.bool (!(← Op.equal t x y)))):=by
 cases x <;> simp [eqKind] at hx <;> cases y <;> simp [eqKind] at hy <;> rfl
theorem xz{op:BinOp}{t:TypeId}{x y x' y' v:Value}{ox oy:Operand}(hv:aBin P op t x y=some v)(rx:aj m h x x')(ry:aj m h y y') :
  (do eqGuard op t ox oy x' y'; binOp op t x' y').run P w = .ok v w∧AI.flat v=true:=by
 unfold aBin at hv;split at hv
 ·rename_i k a k' b
  obtain rfl:=rx.of_int;obtain rfl:=ry.of_int;rw [Sem.run_bind,jK (.inr (.inl ⟨_,_,rfl⟩)),Result.andThen_ok];split at hv
  ·exact mE (.inl rfl) hv
  ·exact mE (.inr rfl) hv
  ·split at hv
   ·rename_i hk; subst hk; exact uV hv
   ·cases hv
 ·obtain rfl:=rx.of_string
  obtain rfl:=ry.of_string;rw [Sem.run_bind,jK (.inr (.inr ⟨_,rfl⟩)),Result.andThen_ok];exact uW hv
 ·rename_i xs ys
  obtain ⟨xs',rfl,rx'⟩:=rx.gZ;obtain ⟨ys',rfl,ry'⟩:=ry.gZ;split at hv
  ·cases hv
  ·rename_i hg
   rw [Sem.run_bind,rW hg,Result.andThen_ok];split at hv
   ·obtain ⟨r,hr,rfl⟩:=Option.map_eq_some_iff.1 hv
    have:=iT (w:=w) 30 hr rx ry Op.maxDepth (by decide)
    refine ⟨?_,rfl⟩
    simp [binOp,Op.equal,this]
   ·obtain ⟨r,hr,rfl⟩:=Option.map_eq_some_iff.1 hv
    have:=iT (w:=w) 30 hr rx ry Op.maxDepth (by decide)
    refine ⟨?_,rfl⟩
    simp [binOp,Op.equal,this]
   ·cases hv
 ·split at hv
  ·cases hv
  ·rename_i hk
   simp only [Bool.and_eq_true] at hk;have hx:=rx.eqKind hk.1
   have hy:=ry.eqKind hk.2
   rw [Sem.run_bind,jK (.inl hx),Result.andThen_ok];split at hv
   ·obtain ⟨r,hr,rfl⟩:=Option.map_eq_some_iff.1 hv
    have:=iT (w:=w) 30 hr rx ry Op.maxDepth (by decide)
    refine ⟨?_,rfl⟩
    simp [binOp_eql hx hy,Op.equal,this]
   ·obtain ⟨r,hr,rfl⟩:=Option.map_eq_some_iff.1 hv
    have:=iT (w:=w) 30 hr rx ry Op.maxDepth (by decide)
    refine ⟨?_,rfl⟩
    simp [binOp_neq hx hy,Op.equal,this]
   ·cases hv
theorem Ap{op:UnOp}{x x' v:Value}(hv:aUn op x=some v)(rx:aj m h x x'):(Op.unary op x').run P w = .ok v w∧AI.flat v=true:=by
 unfold aUn at hv;split at hv
 ·obtain rfl:=rx.of_bool; cases hv; exact ⟨rfl,rfl⟩
 ·obtain rfl:=rx.of_int; cases hv; exact ⟨by simp [Op.unary,Op.intArith,ji],rfl⟩
 ·cases hv
theorem uY{src dst:TypeId}{x x' v:Value}(hv:aConv P src dst x=some v)(rx:aj m h x x'):(convert src dst x').run P w = .ok v w∧AI.flat v=true:=by
 unfold aConv at hv;split at hv
 ·rename_i hs hd; obtain rfl:=rx.of_int; cases hv
  exact ⟨by simp [convert,al hs,al hd,Conv.intToInt,ji],rfl⟩
 ·rename_i hs hd; obtain rfl:=rx.of_string; cases hv
  exact ⟨by simp [convert,al hs,al hd],rfl⟩
 ·cases hv
end
theorem wI(cs:List Value)(n:Nat):putL cs n []=cs:=by
 induction cs generalizing n with
 | nil=>rfl
 | cons c cs ih=>cases n with
   | zero=>rfl
   | succ n=>simp [putL,ih]
theorem n5(v:Value)(vs:List Value):∀ (cs:List Value) (n:Nat),putL cs n (v::vs)=putL (cs.set n v) (n+1) vs
 | [],n=>by simp [putL]
 | c::cs,0=>by
   simp only [putL,List.set_cons_zero]
 | c::cs,n+1=>by
   simp only [putL,List.set_cons_succ];rw [n5 v vs cs n]
theorem cJ:∀ (cs:List Value) (n:Nat) (vs:List Value),(putL cs n vs).length=cs.length
 | [],n,vs=>by simp [putL]
 | c::cs,0,[]=>rfl
 | c::cs,0,v::vs=>by simp [putL,cJ cs 0 vs]
 | c::cs,n+1,vs=>by simp [putL,cJ cs n vs]
theorem fU:∀ (cs:List Value) (n:Nat) (vs:List Value) (i:Nat),(putL cs n vs)[i]? = if n≤i∧i<n+vs.length∧i<cs.length then vs[i-n]? else cs[i]?
 | [],n,vs,i=>by simp [putL]
 | c::cs,0,[],i=>by simp [putL]
 | c::cs,0,v::vs,i=>by
   cases i with
   | zero=>simp [putL]
   | succ i =>
     simp only [putL,List.getElem?_cons_succ,fU cs 0 vs i,List.length_cons]
     by_cases hc:0≤i∧i<0+vs.length∧i<cs.length
     ·rw [if_pos hc,if_pos ⟨by omega,by omega,by omega⟩]; simp
     ·rw [if_neg hc,if_neg (by omega)]
 | c::cs,n+1,vs,i=>by
   cases i with
   | zero=>simp [putL]
   | succ i =>
     simp only [putL,List.getElem?_cons_succ,fU cs n vs i,List.length_cons]
     by_cases hc:n≤i∧i<n+vs.length∧i<cs.length
     ·rw [if_pos hc,if_pos ⟨by omega,by omega,by omega⟩,show i+1-(n+1)=i-n from by omega]
     ·rw [if_neg hc,if_neg (by omega)]
section
variable {P:Program} {w:World} {m:BM} {h:HG}
theorem aD.put{asv bs vs us:List Value}(r:aD m h asv bs)(s:aD m h vs us)(n:Nat):aD m h (putL asv n vs) (putL bs n us):=by
 refine ⟨by rw [cJ,cJ,r.1],fun i v v' h1 h2=>?_⟩
 rw [fU] at h1 h2;by_cases hc:n≤i∧i<n+vs.length∧i<asv.length
 ·rw [if_pos hc] at h1
  rw [if_pos ⟨hc.1,by rw [← s.1]; exact hc.2.1,by rw [← r.1]; exact hc.2.2⟩] at h2
  exact s.2 _ _ _ h1 h2
 ·rw [if_neg hc] at h1
  rw [if_neg (by rw [← s.1,← r.1]; exact hc)] at h2
  exact r.2 _ _ _ h1 h2
theorem sj(off:Nat):∀ (vs:List Value) (k:Nat) (cs:Array Value),
  ((vs.zipIdx k).foldl (fun (cs:Array Value) (x:Value×Nat)=>cs.setIfInBounds (off+x.2) x.1) cs).toList=putL cs.toList (off+k) vs
 | [],k,cs=>by simp [wI]
 | v::vs,k,cs=>by
   rw [List.zipIdx_cons,List.foldl_cons,sj off vs (k+1),n5];simp [Nat.add_assoc]
def BZ(m:BM)(h:HG):List (Nat×Value)→List (Nat×Value)→Prop
 | [],[]=>True
 | p::ps,q::qs=>p.1=q.1∧aj m h p.2 q.2∧BZ m h ps qs
 | _,_=>False
theorem fN{place:Nat→Option (Nat×Nat)}:∀ {ps qs:List (Nat×Value)} {cs:List Value} {ds:Array Value} {r:List Value},aFill place cs ps=some r→BZ m h ps qs →
  aD m h cs ds.toList→∃ r',Instr.fill place ds qs=some r'∧aD m h r r'.toList∧r.length=cs.length
 | [],[],cs,ds,r,he,_,rc=>by simp [aFill] at he; subst he; exact ⟨ds,rfl,rc,rfl⟩
 | [],q::qs,_,_,_,_,hp,_=>hp.elim
 | p::ps,[],_,_,_,_,hp,_=>hp.elim
 | (i,v)::ps,(j,u)::qs,cs,ds,r,he,hp,rc=>by
   obtain ⟨h1,h2,h3⟩:=hp;simp only at h1 h2;subst h1;have hd:cs.length=ds.size:=by simpa using rc.1
   simp only [aFill] at he;split at he
   ·cases he
   ·rename_i off size hpl
    split at he
    ·cases he
    ·rename_i hb
     have hj:isJunk v=false:=by
       cases e:isJunk v with
       | false=>rfl
       | true=>exact absurd (by rw [e]; rfl) hb
     rw [hj,Bool.false_or] at hb;have hc:=h2.cells hj
     have hl:u.cells.size=(cellsL v).length:=by rw [hc.1,← bg]; simp
     have hb':¬ (u.cells.size≠size||decide (off+u.cells.size>ds.size))=true:=by rw [hl,← hd]; simpa using hb
     have e:(u.cells.zipIdx.foldl (fun (cs:Array Value) (x:Value×Nat)=>cs.setIfInBounds (off+x.2) x.1) ds).toList=putL ds.toList off (cellsL u):=by
       rw [← bg,← Array.foldl_toList,Array.toList_zipIdx];exact sj off _ 0 _
     obtain ⟨r',hr',hrr,hlen⟩:=fN (ds:=u.cells.zipIdx.foldl (fun (cs:Array Value) (x:Value×Nat)=>cs.setIfInBounds (off+x.2) x.1) ds) he h3 (by rw [e]; exact rc.put hc off)
     refine ⟨r',?_,hrr,by rw [hlen,cJ]⟩
     simp only [Instr.fill,hpl];rw [if_neg (by simpa using hb')]
     exact hr'
theorem run_places:∀ {fs:List Field} {ps:List (Nat×Nat)},placesOf P fs=some ps →
  (fs.mapM fun f=>do pure (f.offset,← sizeOf f.type):Sem (List (Nat×Nat))).run P w = .ok ps w
 | [],ps,he=>by simp [placesOf] at he; subst he; simp
 | f::fs,ps,he=>by
   simp only [placesOf] at he;split at he
   ·rename_i n r hn hr
    cases he;have ih:=run_places hr
    rw [List.mapM_cons];simp only [Sem.run_bind,Sem.run_pure,bB hn,Result.andThen_ok,ih]
   ·cases he
theorem tg{t:TypeId}{ps:List (Nat×Value)}{qs:Array (Nat×Value)}{v:Value}(he:aBuild P t ps=some v)(hp:BZ m h ps qs.toList) :
  ∃ v',(Instr.build t qs).run P w = .ok v' w∧aj m h v v':=by
 unfold aBuild at he;split at he
 ·cases he
 ·rename_i zero hz
  obtain ⟨z,hz1,hz2,hz3⟩:=nv (w:=w) hz;have hzr:aD m h zero z.cells.toList:=by rw [bg,hz2]; exact aD.jc hz3
  split at he
  ·rename_i fields hu
   split at he
   ·cases he
   ·rename_i places hpl
    obtain ⟨cs,hc,rfl⟩:=Option.map_eq_some_iff.1 he;obtain ⟨r',hr',hrr,_⟩:=fN hc hp hzr;refine ⟨.agg r',?_,by have:=aj.Ar hrr; simpa using this⟩
    have hm:=run_places (P:=P) (w:=w) hpl
    simp only [Instr.build,Sem.run_bind,hz1,Result.andThen_ok,al hu];rw [Array.mapM_eq_mapM_toList];simp only [Sem.run_map,hm,Result.andThen_ok];have e:(fun x:Nat=>(places.toArray)[x]?)=fun x=>places[x]?:=by funext x; simp
    rw [e,hr'];rfl
  ·rename_i n elem hu
   split at he
   ·cases he
   ·rename_i size hs
    obtain ⟨cs,hc,rfl⟩:=Option.map_eq_some_iff.1 he;obtain ⟨r',hr',hrr,_⟩:=fN hc hp hzr;refine ⟨.agg r',?_,by have:=aj.Ar hrr; simpa using this⟩
    simp only [Instr.build,Sem.run_bind,hz1,Result.andThen_ok,al hu,bB hs,hr'];rfl
  ·cases he
theorem dx(z:List Value):∀ n,(repL z n).length=n*z.length
 | 0=>by simp [repL]
 | n+1=>by simp [repL,dx z n,Nat.succ_mul]; omega
theorem wK(z:List Value):∀ n i,i<n*z.length→(repL z n)[i]? = z[i % z.length]?
 | 0,i,hi=>by simp at hi
 | n+1,i,hi=>by
   simp only [repL];by_cases hz:i<z.length
   ·rw [List.getElem?_append_left hz,Nat.mod_eq_of_lt hz]
   ·rw [List.getElem?_append_right (by omega),wK z n (i-z.length) (by rw [Nat.succ_mul] at hi; omega)]
    congr 1
    rw [← Nat.mod_eq_sub_mod (by omega)]
theorem range_zero(z:Array Value)(n:Nat)(hz:n*z.size=0∨0<z.size):((Array.range (n*z.size)).map (z[· % z.size]!)).toList=repL z.toList n:=by
 apply List.ext_getElem?
 intro i;by_cases hi:i<n*z.size
 ·rw [wK _ _ _ (by simpa using hi)]
  have h0:0<z.size:=by
    rcases hz with hz | hz
    ·omega
    ·exact hz
  have hm:i % z.size<z.size:=Nat.mod_lt _ h0
  simp only [Array.toList_map,Array.toList_range,List.getElem?_map,Array.length_toList]
  rw [List.getElem?_range hi]
  simp [hm]
 ·rw [List.getElem?_eq_none (by simp; omega),List.getElem?_eq_none (by rw [dx]; simpa using hi)]
theorem fI{z:List Value}(hz:z.all AI.flat=true):∀ n,(repL z n).all AI.flat=true
 | 0=>rfl
 | n+1=>by simp only [repL,List.all_append,hz,fI hz n,Bool.and_self]
def bS(h:HG)(b:Nat)(o:af):HG:=fun x=>if x=b then some o else h x
def da(m:BM)(b:Nat)(x:Nat×Nat×Nat):BM:=fun y=>if y=b then some x else m y
theorem Le.push{sz:Nat}{o:af}{x:Nat×Nat×Nat}(hs:h sz=none)(hm:m sz=none):Le m h (da m sz x) (bS h sz o):=by
 constructor
 ·intro b hb
  unfold bS;by_cases e:b=sz
  ·subst e; rw [hs] at hb; cases hb
  ·rw [if_neg e]; exact hb
 ·intro b y hb
  refine .inr ?_
  unfold da;by_cases e:b=sz
  ·subst e; rw [hm] at hb; cases hb
  ·rw [if_neg e]; exact hb
theorem BRel.mono{m':BM}{h':HG}{w':World}(l:Le m h m' h'){x:Nat×Nat×Nat}{o:af}(r:BRel m h w x o)(hw:w'.heap[x.1]? = w.heap[x.1]?):BRel m' h' w' x o:=by
 cases o with
 | cells ty cs ro =>
   obtain ⟨c,fr,h1,h2,h3,h4,h5⟩:=r;exact ⟨c,fr,by rw [hw]; exact h1,h2,h3,fun i v v' a b=>(h4 i v v' a b).mono l,h5⟩
 | map es cl ro =>
   obtain ⟨fs,h1,h2,h3⟩:=r;exact ⟨fs,by rw [hw]; exact h1,h2,fun i e f a b=>by
     obtain ⟨p,q,r,s⟩:=h3 i e f a b;exact ⟨p,q,r.mono l,s⟩⟩
 | dead=>trivial
theorem zY(s:cg m h w){sz:Nat}(hs:h sz=none){o:af}{obj:Obj}{E:Nat}
  (hb:∀ m' h',Le m h m' h'→BRel m' h' (w.alloc obj) (w.heap.size,0,E) o) :
  dR m h w (da m sz (w.heap.size,0,E)) (bS h sz o) (w.alloc obj):=by
 have hm:m sz=none:=by
  cases e:m sz with
  | none=>rfl
  | some x=>obtain ⟨o,ho,_⟩:=s.dom _ _ e; rw [hs] at ho; cases ho
 have l:=Le.push (m:=m) (h:=h) (o:=o) (x:=(w.heap.size,0,E)) hs hm
 have hold:∀ k,k<w.heap.size→(w.alloc obj).heap[k]? = w.heap[k]?:=fun k hk=>by
  show (w.heap.push obj)[k]? = _
  rw [Array.getElem?_push,if_neg (by omega)]
 have hrw:∀ b,b≠sz→bS h sz o b=h b:=fun b e=>by unfold bS; rw [if_neg e]
 refine ⟨l,⟨?_,?_⟩,by show _≤(w.heap.push obj).size; simp,?_,?_,?_,fun c oc hc _=>by
  have e:c≠sz:=by intro e; subst e; rw [hc] at hs; cases hs
  rw [hrw c e]; exact hc,?_,?_,rfl,⟨rfl,fun _=>Nat.le_refl _⟩,rfl⟩
 ·intro b x hx
  by_cases e:b=sz
  ·subst e
   simp [da] at hx;subst hx;exact ⟨o,by simp [bS],hb _ _ l⟩
  ·have hx':m b=some x:=by simpa [da,e] using hx
   obtain ⟨o',ho',hr⟩:=s.dom b x hx';refine ⟨o',by rw [hrw b e]; exact ho',?_⟩
   by_cases hd:o' = .dead
   ·subst hd; trivial
   ·refine hr.mono l (hold _ (s.lt hx' ?_))
    unfold aV;rw [ho'];cases o' <;> simp_all
 ·intro b b' x x' hx hx' hr hl hxx
  by_cases e:b=sz <;> by_cases e':b'=sz
  ·rw [e,e']
  ·subst e
   simp [da] at hx;subst hx;have hx2:m b'=some x':=by simpa [da,e'] using hx'
   have hl2:aV h b'=true:=by unfold aV at hl ⊢; rwa [hrw b' e'] at hl
   have:=s.lt hx2 hl2
   simp at hxx; omega
  ·subst e'
   simp [da] at hx';subst hx';have hx2:m b=some x:=by simpa [da,e] using hx
   have hr2:rw? h b=true:=by unfold rw? at hr ⊢; rwa [hrw b e] at hr
   have:=s.lt hx2 (c8 hr2)
   simp at hxx; omega
  ·have hx2:m b=some x:=by simpa [da,e] using hx
   have hx3:m b'=some x':=by simpa [da,e'] using hx'
   exact s.inj b b' x x' hx2 hx3 (by unfold rw? at hr ⊢; rwa [hrw b e] at hr) (by unfold aV at hl ⊢; rwa [hrw b' e'] at hl) hxx
 ·intro b x hx
  by_cases e:b=sz
  ·subst e
   simp [da] at hx;subst hx;exact .inr (.inl (Nat.le_refl _))
  ·exact .inl (by simpa [da,e] using hx)
 ·intro r hr _
  exact hold r hr
 ·intro b o' hb' hm'
  unfold da;by_cases e:b=sz
  ·subst e; rw [hs] at hb'; cases hb'
  ·rw [if_neg e]; exact hm'
 ·intro b o' hb'
  by_cases e:b=sz
  ·subst e; exact ⟨o,by simp [bS]⟩
  ·exact ⟨o',by rw [hrw b e]; exact hb'⟩
 ·intro b x hx hr
  by_cases e:b=sz
  ·subst e; rw [hm] at hx; cases hx
  ·unfold rw? at hr ⊢; rwa [hrw b e] at hr
theorem sb{cs:List Value}{c:Array Value}{ty:TypeId}{fr:Nat×Nat}(hc:aD m h cs (c.toList.take cs.length))(hl:cs.length≤c.size)(hf:∀ j,j≤c.size→¬ (fr.1≤j∧j<fr.2)) :
  ∀ m' h',Le m h m' h'→BRel m' h' (w.alloc (.cells c ty fr)) (w.heap.size,0,c.size) (.cells ty cs false):=by
 intro m' h' l;refine ⟨c,fr,by show (w.heap.push _)[_]? = _; simp,by simpa using hl,Nat.le_refl _,?_,fun _=>hf,fun h=>by cases h⟩
 intro i v v' h1 h2;have hi:i<cs.length:=(List.getElem?_eq_some_iff.1 h1).1
 refine (hc.2 i v v' h1 ?_).mono l
 rw [List.getElem?_take,if_pos hi]
 simpa using h2
theorem eB{cs:List Value}{c:Array Value}{ty:TypeId}(hc:aD m h cs c.toList) :
  ∀ m' h',Le m h m' h'→BRel m' h' (w.alloc (.cells c ty)) (w.heap.size,0,c.size) (.cells ty cs false):=by
 have hl:cs.length=c.size:=by simpa using hc.1
 refine sb (fr:=(0,0)) ?_ (by omega) (fun j _=>by simp)
 rw [List.take_of_length_le (by simp; omega)]
 exact hc
theorem ew{sz:Nat}{x:Nat×Nat×Nat}:da m sz x sz=some x:=by simp [da]
end
section
variable {P:Program} {w:World} {m:BM} {h:HG}
def Lays(P:Program)(m:BM)(h:HG)(w:World)(sz:Nat)(ob:Option af)(v:Value)(r:Result Value):Prop :=
 match ob with
 | none=>∃ v',r = .ok v' w∧aj m h v v'
 | some o=>∃ v' obj E,r = .ok v' (w.alloc obj)∧aj (da m sz (w.heap.size,0,E)) (bS h sz o) v v' ∧
   ∀ m' h',Le m h m' h'→BRel m' h' (w.alloc obj) (w.heap.size,0,E) o
theorem zX{sz E:Nat}{o:af}:aj (da m sz (w.heap.size,0,E)) (bS h sz o) (EF sz) (.pointer (some ⟨w.heap.size,0,none⟩)) :=
 .ptr (.inr ⟨0,E,ew,rfl⟩)
theorem u4{sz:Nat}{elem:TypeId}{z:List Value}(hz:tzero P elem=some z) :
  Lays P m h w sz (some (.cells elem z false)) (EF sz) ((Instr.alloc elem true (.tuple #[])).run P w):=by
 obtain ⟨v,h1,h2,h3⟩:=nv (w:=w) hz;refine ⟨_,.cells v.cells elem,v.cells.size,?_,zX,eB ?_⟩
 ·simp only [Instr.alloc,Sem.run_bind,h1,Result.andThen_ok]
  rfl
 ·rw [bg,h2]; exact aD.jc h3
theorem Av{sz:Nat}{elem:TypeId}{x x':Value}(hj:isJunk x=false)(rx:aj m h x x') :
  Lays P m h w sz (some (.cells elem (cellsL x) false)) (EF sz) ((Instr.box elem x').run P w) :=
 ⟨_,.cells x'.cells elem,x'.cells.size,rfl,zX,eB (by rw [bg]; exact rx.cells hj)⟩
theorem mC{sz:Nat}{t:TypeId}{len:Nat}{ps:List (Nat×Value)}{qs:Array (Nat×Value)}{v:Value}{o:af}(he:aBuildSlice P sz t len ps=some (v,o))(hp:BZ m h ps qs.toList) :
  Lays P m h w sz (some o) v ((Instr.buildSlice t len qs).run P w):=by
 unfold aBuildSlice at he;split at he
 ·rename_i elem hu
  split at he
  ·rename_i size zero hs hz
   split at he
   ·cases he
   ·rename_i hc
    simp only [Bool.or_eq_true,decide_eq_true_eq,not_or,Nat.not_lt,gt_iff_lt] at hc;obtain ⟨⟨hc1,hc2⟩,hc3⟩:=hc;obtain ⟨cs,hcs,hvo⟩:=Option.map_eq_some_iff.1 he;cases hvo;obtain ⟨z,h1,h2,h3⟩:=nv (w:=w) hz;have hzs:z.cells.size=size:=by
      have:z.cells.toList.length=size:=by rw [bg,h2]; simpa using hc2
      simpa using this
    have e:∀ y:Array Value,(if len*size=0 then y = #[] else y=z.cells)→((Array.range (len*size)).map (y[· % y.size]!)).toList=repL zero len:=by
      intro y hy;split at hy
      ·rename_i h0
       have hl:len=0:=by
         rcases Nat.mul_eq_zero.1 h0 with h0 | h0
         ·exact h0
         ·exact absurd h0 hc1
       subst hl; simp [repL]
      ·subst hy
       rw [← hzs,range_zero _ _ (.inr (by omega)),bg,h2]
    have hrz:=aD.jc (m:=m) (h:=h) (fI h3 len)
    have hf:=aD.jc (m:=m) (h:=h) (fI h3 len)
    by_cases h0:len*size=0
    ·have e0:=e #[] (by rw [if_pos h0])
     obtain ⟨r',hr',hrr,hlen⟩:=fN (ds:=(Array.range (len*size)).map ((#[]:Array Value)[· % (#[]:Array Value).size]!)) hcs hp (by rw [e0]; exact hf)
     refine ⟨.slice (some ⟨w.heap.size,0,none⟩) len len,.cells r' elem,r'.size,?_,?_,eB hrr⟩
     ·simp only [Instr.buildSlice,Sem.run_bind,al hu,bB hs,Result.andThen_ok,h0,if_true]
      rw [if_neg (by omega)]
      simp only [Sem.run_bind,Sem.run_pure,Result.andThen_ok];rw [h0] at hr';rw [hr'];rfl
     ·refine .slice (.of (Nat.le_refl _) (by omega)) (.inr ⟨0,_,ew,.inl rfl,fun hh=>by omega,fun _=>?_⟩)
      have:r'.size=(repL zero len).length:=by rw [← hlen,hrr.1]; simp
      rw [this,dx,show (3*size+1) / 3=size from by omega]
      simp at hc2; simp [hc2]
    ·have e0:=e z.cells (by rw [if_neg h0])
     obtain ⟨r',hr',hrr,hlen⟩:=fN (ds:=(Array.range (len*size)).map (z.cells[· % z.cells.size]!)) hcs hp (by rw [e0]; exact hf)
     refine ⟨.slice (some ⟨w.heap.size,0,none⟩) len len,.cells r' elem,r'.size,?_,?_,eB hrr⟩
     ·simp only [Instr.buildSlice,Sem.run_bind,al hu,bB hs,Result.andThen_ok]
      rw [if_neg (by omega),if_neg h0]
      simp only [Sem.run_bind,Sem.run_pure,Result.andThen_ok,h1];rw [hr'];rfl
     ·refine .slice (.of (Nat.le_refl _) (by omega)) (.inr ⟨0,_,ew,.inl rfl,fun hh=>by omega,fun _=>?_⟩)
      have:r'.size=(repL zero len).length:=by rw [← hlen,hrr.1]; simp
      rw [this,dx,show (3*size+1) / 3=size from by omega]
      simp at hc2; simp [hc2]
  ·cases he
 ·cases he
theorem wrap_small{n:Int}(h0:0≤n)(h1:n≤2147483647):IntKind.i64.wrap n=n:=by
 have e:inR .i64 n=true:=by simp [inR]; omega
 rw [← ji]; unfold wrapF;rw [e]
theorem nO{sz:Nat}{t:TypeId}{l c l' c' v:Value}{o:af}(he:aMakeSlice P sz t l c=some (v,o))(rl:aj m h l l')(rc:aj m h c c') :
  Lays P m h w sz (some o) v ((Instr.makeSlice t l' c').run P w):=by
 unfold aMakeSlice at he;split at he
 ·rename_i elem k1 l k2 c hu
  obtain rfl:=rl.of_int;obtain rfl:=rc.of_int;split at he
  ·rename_i i zero hi hz
   split at he
   ·cases he
   ·rename_i hc
    simp only [Bool.or_eq_true,decide_eq_true_eq,not_or,Int.not_lt,gt_iff_lt,Nat.not_lt] at hc;obtain ⟨⟨⟨⟨⟨hc1,hc2⟩,hc3⟩,hc4⟩,hc5⟩,hc6⟩:=hc;cases he;obtain ⟨z,h1,h2,h3⟩:=nv (w:=w) hz;have hs:bZ P elem=some i.size:=by simp [bZ,hi]
    have hzs:z.cells.size=i.size:=by
      have:z.cells.toList.length=i.size:=by rw [bg,h2]; simpa using hc2
      simpa using this
    have hb:(i.bytes:Int)*c≤2 ^ 48:=by
      have h1:(i.bytes:Int)≤32768:=by omega
      have:(i.bytes:Int)*c≤32768*2147483647:=Int.mul_le_mul h1 hc5 (by omega) (by omega)
      omega
    have e:∀ y:Array Value,(if c.toNat*i.size=0 then y = #[] else y=z.cells)→((Array.range (c.toNat*i.size)).map (y[· % y.size]!)).toList=repL zero c.toNat:=by
      intro y hy;split at hy
      ·rename_i h0
       have hl:c.toNat=0:=by
         rcases Nat.mul_eq_zero.1 h0 with h0 | h0
         ·exact h0
         ·exact absurd h0 hc1
       rw [hl]; simp [repL]
      ·subst hy
       rw [← hzs,range_zero _ _ (.inr (by omega)),bg,h2]
    have hrun:∃ y:Array Value,(if c.toNat*i.size=0 then y = #[] else y=z.cells)∧(Instr.makeSlice t (.int k1 l) (.int k2 c)).run P w =
        .ok (.slice (some ⟨w.heap.size,0,none⟩) l.toNat c.toNat) (w.alloc (.cells ((Array.range (c.toNat*i.size)).map (y[· % y.size]!)) elem)):=by
      by_cases h0:c.toNat*i.size=0
      ·refine ⟨#[],by rw [if_pos h0],?_⟩
       simp only [Instr.makeSlice,Sem.run_bind,al hu,Result.andThen_ok,asInt,asIntOf,Sem.run_pure,ef hi,wrap_small (show 0≤c by omega) hc5,wrap_small hc3 (show l≤2147483647 by omega),run_askRoom,bB hs]
       rw [if_neg (by simp; omega)]
       simp only [Sem.run_bind,Sem.run_pure,Result.andThen_ok,run_askRoom,bB hs,h0,if_true];rfl
      ·refine ⟨z.cells,by rw [if_neg h0],?_⟩
       simp only [Instr.makeSlice,Sem.run_bind,al hu,Result.andThen_ok,asInt,asIntOf,Sem.run_pure,ef hi,wrap_small (show 0≤c by omega) hc5,wrap_small hc3 (show l≤2147483647 by omega),run_askRoom,bB hs]
       rw [if_neg (by simp; omega)]
       simp only [Sem.run_bind,Sem.run_pure,Result.andThen_ok,run_askRoom,bB hs];rw [if_neg h0];simp only [Sem.run_bind,Sem.run_pure,Result.andThen_ok,h1];rfl
    obtain ⟨y,hy,hrun⟩:=hrun;have ey:=e y hy
    have hsz:((Array.range (c.toNat*i.size)).map (y[· % y.size]!)).size=c.toNat*i.size:=by simp
    refine ⟨_,_,_,hrun,?_,eB (by rw [ey]; exact aD.jc (fI h3 _))⟩
    refine .slice (.of (by omega) (by omega)) (.inr ⟨0,_,ew,.inl rfl,fun hh=>by omega,fun _=>?_⟩)
    rw [hsz,show (3*i.size+1) / 3=i.size from by omega]
    omega
  ·cases he
 ·cases he
theorem dS(b off n:Nat):(⟨b,off,none⟩:Addr).add n=⟨b,off+n,none⟩:=by unfold Addr.add; split <;> simp_all
theorem aj.add{b off r off' n:Nat}(hh:h b=some .dead∨∃ δ E,m b=some (r,δ,E)∧off' = δ + off) :
  aj m h (.pointer (some ⟨b,off+n,none⟩)) (.pointer (some ⟨r,off'+n,none⟩)):=by
 refine .ptr ?_
 rcases hh with hh | ⟨δ,E,h1,h2⟩
 ·exact .inl hh
 ·exact .inr ⟨δ,E,h1,by omega⟩
theorem nM{s:TypeId}{x x' v:Value}{f:Nat}(he:aFieldAddr P s x f=some v)(rx:aj m h x x') :
  ∃ v',(Instr.fieldAt s x' f).run P w = .ok v' w∧aj m h v v':=by
 unfold aFieldAddr at he;split at he
 ·rename_i fields a hu
  split at he
  ·rename_i fd hf
   split at he
   ·cases he
   ·rename_i n hn0 hn
    cases he;obtain ⟨b,off,r,off',rfl,rfl,hh⟩:=rx.fG;refine ⟨_,?_,aj.add hh⟩
    have hn1:n≠0:=fun e=>hn0 e
    simp [Instr.fieldAt,al hu,hf,Instr.sureAddr,fieldPlace,bB hn,hn1,dS]
   ·cases he
  ·cases he
 ·cases he
theorem nN{t:TypeId}{x x' ix ix' v:Value}(he:aIndexAddr P t x ix=some v)(rx:aj m h x x')(ri:aj m h ix ix') :
  ∃ v',(Instr.indexAt t x' ix').run P w = .ok v' w∧aj m h v v':=by
 unfold aIndexAddr at he;split at he
 ·obtain rfl:=ri.of_int
  split at he
  ·rename_i k i _ len elem a hu
   split at he
   ·rename_i n hn
    split at he
    ·rename_i hb
     cases he;obtain ⟨b,off,r,off',rfl,rfl,hh⟩:=rx.fG;refine ⟨_,?_,aj.add hh⟩
     simp [Instr.indexAt,asIntOf,al hu,Instr.sureAddr,hb,bB hn,dS]
    ·cases he
   ·cases he
  ·rename_i kk i od xv elem a len c hu
   split at he
   ·rename_i n hn
    split at he
    ·rename_i hb
     cases he;obtain ⟨b,off,r,off',cap,rfl,rfl,hlc,hh⟩:=rx.of_slice;refine ⟨.pointer (some ⟨r,off'+i.toNat*n,none⟩),?_,?_⟩
     ·simp [Instr.indexAt,asIntOf,al hu,hb,bB hn,dS]
     ·refine .ptr ?_
      rcases hh with hh | ⟨δ,E,h1,h2,_⟩
      ·exact .inl hh
      ·refine .inr ⟨δ,E,h1,?_⟩
       show off'+i.toNat*n = δ + (off+i.toNat*n)
       rcases h2 with h2 | h2
       ·omega
       ·omega
    ·cases he
   ·cases he
  ·cases he
 ·cases he
theorem tt{t:TypeId}{x x' ix ix' v:Value}(he:aIndex P t x ix=some v)(rx:aj m h x x')(ri:aj m h ix ix') :
  ∃ v',(Instr.index t x' ix').run P w = .ok v' w∧aj m h v v':=by
 unfold aIndex at he;split at he
 ·obtain rfl:=ri.of_int
  split at he
  ·rename_i k i _ len elem cs hu
   split at he
   ·rename_i n hn
    split at he
    ·rename_i hb
     obtain ⟨cs',rfl,rc⟩:=rx.gZ;obtain ⟨v',h1,h2⟩:=nu (w:=w) he rc;exact ⟨v',by simp [Instr.index,asIntOf,al hu,hb,bB hn,h1],h2⟩
    ·cases he
   ·cases he
  ·rename_i kk i od xv s hu
   obtain rfl:=rx.of_string;split at he
   ·rename_i h0
    obtain ⟨b,hb,rfl⟩:=Option.map_eq_some_iff.1 he;refine ⟨_,?_,.flat rfl⟩
    have hlt:i.toNat<s.size:=by
      have:=(List.getElem?_eq_some_iff.1 hb).1
      rw [Lib.size_eq]; exact this
    have e:s[i.toNat]? = some b:=by
      rw [getElem?_pos s i.toNat hlt]
      have:=(List.getElem?_eq_some_iff.1 hb).2
      simp only [Array.getElem_toList] at this;rw [← this]; rfl
    simp only [Instr.index,Sem.run_bind,asIntOf,Sem.run_pure,Result.andThen_ok,al hu];rw [if_pos h0,e];rfl
   ·cases he
  ·cases he
 ·cases he
theorem tl{t:TypeId}{x x' v:Value}{f:Nat}(he:aField P t x f=some v)(rx:aj m h x x') :
  ∃ v',(Instr.field t x' f).run P w = .ok v' w∧aj m h v v':=by
 unfold aField at he;split at he
 ·rename_i fields cs hu
  split at he
  ·rename_i fd hf
   obtain ⟨cs',rfl,rc⟩:=rx.gZ;obtain ⟨v',h1,h2⟩:=nu (w:=w) he rc;exact ⟨v',by simp [Instr.field,al hu,hf,asAgg,h1],h2⟩
  ·cases he
 ·cases he
theorem iy{x:Value}{x':Value}{y n:Nat}{code:BoundsCode}{d:Nat}(he:bound (some x) d y=some n)(rx:aj m h x x')(z:Nat)(hz:y≤z) :
  (Instr.sliceBound x' z code).run P w = .ok n w∧n≤y:=by
 unfold bound at he;split at he
 ·rename_i hx; cases hx
 ·rename_i k i hx
  cases hx;obtain rfl:=rx.of_int;split at he
  ·rename_i hb
   cases he;refine ⟨?_,by omega⟩
   simp only [Instr.sliceBound,Sem.run_bind,asIntOf,Sem.run_pure,Result.andThen_ok];rw [if_pos ⟨hb.1,by omega⟩]
   rfl
  ·cases he
 ·cases he
def o9(m:BM)(h:HG)(a b:Option Value):Prop :=
 match a,b with
 | none,none=>True
 | some x,some y=>aj m h x y
 | _,_=>False
theorem o9.map{ρ ρ':Operand→Value}{x:Option Operand}(hr:∀ y,x=some y→aj m h (ρ y) (ρ' y)):o9 m h (x.map ρ) (x.map ρ'):=by
 cases x with
 | none=>trivial
 | some y=>exact hr y rfl
theorem vZ{lo lo':Option Value}{hh l:Nat}{code:BoundsCode}(he:bound lo 0 hh=some l)(r:o9 m h lo lo') :
  (match lo' with | some v=>Instr.sliceBound v hh code | none=>pure 0:Sem Nat).run P w = .ok l w∧l≤hh:=by
 cases lo with
 | none =>
   cases lo' with
   | none=>simp [bound] at he; subst he; exact ⟨rfl,Nat.zero_le _⟩
   | some _=>exact r.elim
 | some x =>
   cases lo' with
   | none=>exact r.elim
   | some y=>exact iy he r hh (Nat.le_refl _)
theorem lZ{isS:Bool}{len cap hh l y:Nat}{lo lo' hi hi':Option Value}(hy:y≤cap)(hb:bound hi len y=some hh)(hl:bound lo 0 hh=some l)(rh:o9 m h hi hi')(rl:o9 m h lo lo') :
  (Instr.sliceBounds isS len cap lo' hi' none).run P w = .ok (l,hh,cap) w∧l≤hh:=by
 have h2:=(vZ (P:=P) (w:=w) (code:=.sliceB) hl rl)
 refine ⟨?_,h2.2⟩
 have h2:=h2.1
 cases hi with
 | none=>cases hi' with
   | some _=>exact rh.elim
   | none =>
     simp [bound] at hb; subst hb;cases lo' with
     | none=>simp [Instr.sliceBounds] at h2 ⊢; exact h2
     | some b=>simp at h2; simp [Instr.sliceBounds,h2]
 | some x=>cases hi' with
   | none=>exact rh.elim
   | some z =>
     have h1:=(iy (P:=P) (w:=w) (code:=if isS then .sliceAcap else .sliceAlen) hb rh cap hy).1
     cases lo' with
     | none=>simp at h2; simp [Instr.sliceBounds,h1,h2]
     | some b=>simp at h2; simp [Instr.sliceBounds,h1,h2]
theorem p8{len cap hh l mm y:Nat}{lo lo':Option Value}{hi hi' mx mx':Value}(hy:y≤cap)(hm:bound (some mx) len y=some mm)(hb:bound (some hi) len mm=some hh)(hl:bound lo 0 hh=some l)
  (rm:aj m h mx mx') (rh:aj m h hi hi') (rl:o9 m h lo lo') :
  (Instr.sliceBounds true len cap lo' (some hi') (some mx')).run P w = .ok (l,hh,mm) w∧l≤hh∧hh≤mm∧mm≤y:=by
 have h2:=(vZ (P:=P) (w:=w) (code:=.slice3C) hl rl)
 have h1:=(iy (P:=P) (w:=w) (code:=.slice3Acap) hm rm cap hy)
 have h3:=(iy (P:=P) (w:=w) (code:=.slice3B) hb rh mm (Nat.le_refl _))
 refine ⟨?_,h2.2,h3.2,h1.2⟩
 have h2:=h2.1
 cases lo' with
 | none=>simp at h2; simp [Instr.sliceBounds,h1.1,h3.1,h2]
 | some b=>simp at h2; simp [Instr.sliceBounds,h1.1,h3.1,h2]
theorem mJ{x:Option Value}{d y n:Nat}(hd:d≤y)(he:bound x d y=some n):n≤y:=by
 unfold bound at he;split at he
 ·cases he; exact hd
 ·split at he
  ·cases he; omega
  ·cases he
 ·cases he
theorem tx{t:TypeId}{x x' v:Value}{lo hi mx lo' hi' mx':Option Value}(he:aSlice P t x lo hi mx=some v)(rx:aj m h x x')(rl:o9 m h lo lo')(rh:o9 m h hi hi')(rm:o9 m h mx mx') :
  ∃ v',(Instr.sliceAt t x' lo' hi' mx').run P w = .ok v' w∧aj m h v v':=by
 unfold aSlice at he;split at he
 ·rename_i s hu
  obtain rfl:=rx.of_string;split at he
  ·cases he
  ·cases mx' with
   | some _=>exact rm.elim
   | none =>
     split at he
     ·cases he
     ·rename_i hv hb
      split at he
      ·cases he
      ·rename_i l hl
       cases he;refine ⟨.string (s.extract l hv),?_,by rw [Lib.extract_eq]; exact .flat rfl⟩
       have hrun:=(lZ (P:=P) (w:=w) (isS:=false) (Nat.le_refl _) hb hl rh rl).1
       simp [Instr.sliceAt,al hu,Instr.slice,hrun]
 ·rename_i elem hu
  obtain rfl:=rx.of_flat rfl;split at he
  ·rename_i n a1 b1 c1 hn ha hb hc
   split at he
   ·cases he
   ·rename_i hnn
    cases he;have ha0:=mJ (Nat.le_refl 0) ha
    have hb0:=mJ (Nat.le_refl 0) hb
    have hc0:=mJ (Nat.le_refl 0) hc
    obtain rfl:a1=0:=by omega
    obtain rfl:b1=0:=by omega
    obtain rfl:c1=0:=by omega
    refine ⟨.slice none 0 0,?_,.flat rfl⟩
    cases mx with
    | none=>cases mx' with
      | some _=>exact rm.elim
      | none =>
        have hrun:=(lZ (P:=P) (w:=w) (isS:=true) (Nat.le_refl 0) ha hb rh rl).1
        simp [Instr.sliceAt,al hu,Instr.slice,hrun,bB hn]
    | some y=>cases mx' with
      | none=>exact rm.elim
      | some z=>cases hi with
        | none=>simp at hnn
        | some u=>cases hi' with
          | none=>exact rh.elim
          | some u' =>
            have hrun:=(p8 (P:=P) (w:=w) (Nat.le_refl 0) hc ha hb rm rh rl).1
            simp [Instr.sliceAt,al hu,Instr.slice,hrun,bB hn]
  ·cases he
 ·rename_i elem a len c hu
  obtain ⟨b,off,r,off',cap,rfl,rfl,hlc,hh⟩:=rx.dM;have hsp:len+spareOf c≤cap:=by
    have h1:=hlc.1
    unfold spareOf;split
    ·rename_i h0; have:=hlc.2 h0; omega
    ·omega
  split at he
  ·cases he
  ·rename_i size hs
   split at he
   ·cases mx' with
    | some _=>exact rm.elim
    | none =>
      split at he
      ·cases he
      ·rename_i h2 hb
       split at he
       ·cases he
       ·rename_i l hl
        cases he;obtain ⟨hrun,hlh⟩:=(lZ (P:=P) (w:=w) (isS:=true) hsp hb hl rh rl);have h2l:=mJ (Nat.le_add_right len (spareOf c)) hb
        have hcx:(if eJ c=1∧wide c=size then c else if eJ c=0 then 3*(wide c % 1000000+1000000*(len+spareOf c-h2)) else 3*size+2) % 3=0 →
            cap-l=(h2-l)+(if eJ c=1∧wide c=size then c else if eJ c=0 then 3*(wide c % 1000000+1000000*(len+spareOf c-h2)) else 3*size+2) / 3 / 1000000:=by
          intro hz;split at hz
          ·rename_i hf; unfold eJ at hf; omega
          ·rename_i hf1
           rw [if_neg hf1];split at hz
           ·rename_i hf
            rw [if_pos hf];unfold eJ at hf;have h9:=hlc.2 hf
            have hsv:spareOf c=c / 3 / 1000000:=by unfold spareOf; rw [hf]; rfl
            rw [hsv] at h2l ⊢;unfold wide;omega
           ·omega
        refine ⟨.slice (some ⟨r,if cap=l then off' else off'+l*size,none⟩) (h2-l) (cap-l),?_,?_⟩
        ·simp only [Instr.sliceAt,Sem.run_bind,al hu,Result.andThen_ok,Instr.slice,hrun,bB hs,Sem.run_pure]
         split <;> simp [dS]
        ·refine .slice ⟨by omega,hcx⟩ ?_
         rcases hh with hh | ⟨δ,E,h3,h4,h5,h6⟩
         ·exact .inl hh
         ·refine .inr ⟨δ,E,h3,?_,hcx,?_⟩
          ·by_cases e:cap=l
           ·exact .inr (by omega)
           ·rw [if_neg e]
            rcases h4 with h4 | h4
            ·exact .inl (by dsimp only; omega)
            ·exact .inr (by omega)
          ·intro hz
           split at hz
           ·rename_i hf
            rw [if_pos hf];unfold eJ wide at hf;have:=h6 hf.1
            rw [hf.2] at this ⊢;dsimp only
            have hm:(cap-l)*size+l*size=cap*size:=by rw [← Nat.add_mul]; congr 1; omega
            omega
           ·split at hz
            ·rename_i hf
             unfold eJ at hf;omega
            ·omega
   ·rename_i my
    cases mx' with
    | none=>exact rm.elim
    | some mz =>
      split at he
      ·rename_i mm hiv hmm
       cases hi' with
       | none=>exact rh.elim
       | some hz' =>
         split at he
         ·cases he
         ·rename_i h2 hb
          split at he
          ·cases he
          ·rename_i l hl
           cases he;obtain ⟨hrun,hlh,hhm,hml⟩:=(p8 (P:=P) (w:=w) hlc.1 hmm hb hl rm rh rl);refine ⟨.slice (some ⟨r,if mm=l then off' else off'+l*size,none⟩) (h2-l) (mm-l),?_,?_⟩
           ·simp only [Instr.sliceAt,Sem.run_bind,al hu,Result.andThen_ok,Instr.slice,hrun,bB hs,Sem.run_pure]
            split <;> simp [dS]
           ·have hcy:(if h2=mm∧size<1000000 then 3*size else 3*size+2) % 3=0→mm-l=(h2-l)+(if h2=mm∧size<1000000 then 3*size else 3*size+2) / 3 / 1000000:=by
               intro hz;split at hz
               ·rename_i hf; rw [if_pos hf]; omega
               ·omega
            refine .slice ⟨by omega,hcy⟩ ?_
            rcases hh with hh | ⟨δ,E,h3,h4,h5,h6⟩
            ·exact .inl hh
            ·refine .inr ⟨δ,E,h3,?_,hcy,?_⟩
             ·by_cases e:mm=l
              ·exact .inr (by omega)
              ·rw [if_neg e]
               rcases h4 with h4 | h4
               ·exact .inl (by dsimp only; omega)
               ·exact .inr (by omega)
             ·intro hz
              split at hz <;> omega
      ·cases he
 ·cases he
theorem xC{t:TypeId}{x x' v:Value}{ts:Array TypeId}{ty:TypeId}{xs:Array Value}(he:aLen P t x=some v)(rx:aj m h x x')(ht:ts[0]? = some t)(hx:xs[0]? = some x') :
  (Builtin.len_ ts ty xs).run P w = .ok v w∧AI.flat v=true:=by
 unfold aLen at he;split at he
 ·rename_i s hu; obtain rfl:=rx.of_string; cases he; exact ⟨by simp [Builtin.len_,ht,hx,al hu],rfl⟩
 ·rename_i _ a n c hu; cases he
  cases a with
  | none =>
    obtain ⟨rfl,_,rfl⟩:=rx.dY;exact ⟨by simp [Builtin.len_,ht,hx,al hu],rfl⟩
  | some a =>
    obtain ⟨_,_,_,_,_,_,rfl,_⟩:=rx.of_slice;exact ⟨by simp [Builtin.len_,ht,hx,al hu],rfl⟩
 ·rename_i _ n hu; cases he
  cases rx with
  | flat hf=>cases hf
  | blind h1=>exact ⟨by simp [Builtin.len_,ht,hx,al hu],rfl⟩
  | blind0=>exact ⟨by simp [Builtin.len_,ht,hx,al hu],rfl⟩
 ·rename_i hu; obtain rfl:=rx.of_flat rfl; cases he; exact ⟨by simp [Builtin.len_,ht,hx,al hu],rfl⟩
 ·cases he
theorem xA{t:TypeId}{x x' v:Value}{ts:Array TypeId}{ty:TypeId}{xs:Array Value}(he:aCap P t x=some v)(rx:aj m h x x')(ht:ts[0]? = some t)(hx:xs[0]? = some x') :
  (Builtin.cap_ ts ty xs).run P w = .ok v w∧AI.flat v=true:=by
 unfold aCap at he;split at he
 ·rename_i hu; obtain ⟨_,_,rfl⟩:=rx.dY; cases he
  exact ⟨by simp [Builtin.cap_,ht,hx,al hu],rfl⟩
 ·rename_i _ a n c hu
  split at he
  ·rename_i h0
   cases he;obtain ⟨_,_,_,_,cap,rfl,rfl,hc,_⟩:=rx.dM;have:=hc.2 h0
   exact ⟨by simp [Builtin.cap_,ht,hx,al hu,this],rfl⟩
  ·cases he
 ·cases he
theorem lN:∀ {xs:List Value} {x v:Value} {xs':List Value} {x':Value},foldMin x xs=some v→aj m h x x'→aD m h xs xs' →
  ∃ v',(xs'.foldlM Builtin.min2 x':Sem Value).run P w = .ok v' w∧aj m h v v'
 | [],x,v,xs',x',he,rx,rs=>by
   simp [foldMin] at he; subst he; rw [rs.of_nil]; exact ⟨x',by simp,rx⟩
 | y::ys,x,v,xs',x',he,rx,rs=>by
   obtain ⟨y',ys',rfl,h1,h2⟩:=rs.of_cons;cases x <;> cases y <;> simp [foldMin] at he
   obtain rfl:=rx.of_int;obtain rfl:=h1.of_int;obtain ⟨v',h3,h4⟩:=lN he (.flat rfl) h2;refine ⟨v',?_,h4⟩
   rw [List.foldlM_cons];simp only [Builtin.min2,Sem.run_bind,Sem.run_pure,Result.andThen_ok];exact h3
theorem lM:∀ {xs:List Value} {x v:Value} {xs':List Value} {x':Value},mV x xs=some v→aj m h x x'→aD m h xs xs' →
  ∃ v',(xs'.foldlM Builtin.max2 x':Sem Value).run P w = .ok v' w∧aj m h v v'
 | [],x,v,xs',x',he,rx,rs=>by
   simp [mV] at he; subst he; rw [rs.of_nil]; exact ⟨x',by simp,rx⟩
 | y::ys,x,v,xs',x',he,rx,rs=>by
   obtain ⟨y',ys',rfl,h1,h2⟩:=rs.of_cons;cases x <;> cases y <;> simp [mV] at he
   obtain rfl:=rx.of_int;obtain rfl:=h1.of_int;obtain ⟨v',h3,h4⟩:=lM he (.flat rfl) h2;refine ⟨v',?_,h4⟩
   rw [List.foldlM_cons];simp only [Builtin.max2,Sem.run_bind,Sem.run_pure,Result.andThen_ok];exact h3
theorem aD.map{ρ ρ':Operand→Value}:∀ {xs:List Operand},(∀ x∈xs,aj m h (ρ x) (ρ' x))→aD m h (xs.map ρ) (xs.map ρ')
 | [],_=>.nil
 | x::xs,hr=>.cons (hr x (.head _)) (aD.map fun y hy=>hr y (.tail _ hy))
theorem pc{b:Builtin}{ts:Array TypeId}{ty:TypeId}{cs:Array Bool}{xs:List Value}{xs':Array Value}{v:Value}(he:aPureCall P b ts.toList xs=some v)(rs:aD m h xs xs'.toList) :
  ∃ v',(builtin b ts ty cs xs').run P w = .ok (.value v') w∧aj m h v v':=by
 unfold aPureCall at he;split at he
 ·rename_i t _ x _ ht
  obtain ⟨x',xr,hx,h1,h2⟩:=rs.of_cons;have ht0:ts[0]? = some t:=by
    have:ts.toList[0]? = some t:=by rw [ht]; rfl
    simpa using this
  have hx0:xs'[0]? = some x':=by
    have:xs'.toList[0]? = some x':=by rw [hx]; rfl
    simpa using this
  obtain ⟨h3,h4⟩:=xC (P:=P) (w:=w) (ty:=ty) he h1 ht0 hx0;exact ⟨v,by simp [builtin,h3],.flat h4⟩
 ·rename_i t _ x _ ht
  obtain ⟨x',xr,hx,h1,h2⟩:=rs.of_cons;have ht0:ts[0]? = some t:=by
    have:ts.toList[0]? = some t:=by rw [ht]; rfl
    simpa using this
  have hx0:xs'[0]? = some x':=by
    have:xs'.toList[0]? = some x':=by rw [hx]; rfl
    simpa using this
  obtain ⟨h3,h4⟩:=xA (P:=P) (w:=w) (ty:=ty) he h1 ht0 hx0;exact ⟨v,by simp [builtin,h3],.flat h4⟩
 ·obtain ⟨x',xr,hx,h1,h2⟩:=rs.of_cons
  obtain ⟨v',h3,h4⟩:=lN (P:=P) (w:=w) he h1 h2;refine ⟨v',?_,h4⟩
  simp only [builtin,Sem.run_bind,Builtin.min_,hx,h3,Result.andThen_ok,Sem.run_pure]
 ·obtain ⟨x',xr,hx,h1,h2⟩:=rs.of_cons
  obtain ⟨v',h3,h4⟩:=lM (P:=P) (w:=w) he h1 h2;refine ⟨v',?_,h4⟩
  simp only [builtin,Sem.run_bind,Builtin.max_,hx,h3,Result.andThen_ok,Sem.run_pure]
 ·cases he
theorem qH{ρ ρ':Operand→Value}:∀ {ps:List (Nat×Operand)},(∀ p∈ps,aj m h (ρ p.2) (ρ' p.2))→BZ m h (ps.map fun p=>(p.1,ρ p.2)) (ps.map fun p=>(p.1,ρ' p.2))
 | [],_=>trivial
 | p::ps,hr=>⟨rfl,hr p (.head _),qH fun q hq=>hr q (.tail _ hq)⟩
def r8(P:Program)(m:BM)(h:HG)(w:World)(sz:Nat)(ob:Option af)(v:Value)(r:Result Next):Prop :=
 match ob with
 | none=>∃ v',r = .ok (.value v') w∧aj m h v v'
 | some o=>∃ v' obj E,r = .ok (.value v') (w.alloc obj)∧aj (da m sz (w.heap.size,0,E)) (bS h sz o) v v' ∧
   ∀ m' h',Le m h m' h'→BRel m' h' (w.alloc obj) (w.heap.size,0,E) o
theorem Lays.next{sz:Nat}{ob:Option af}{v:Value}{s:Sem Value}(hl:Lays P m h w sz ob v (s.run P w)):r8 P m h w sz ob v ((do pure (.value (← s)):Sem Next).run P w):=by
 cases ob with
 | none=>obtain ⟨v',h1,h2⟩:=hl; exact ⟨v',by simp [h1],h2⟩
 | some o=>obtain ⟨v',obj,E,h1,h2⟩:=hl; exact ⟨v',obj,E,by simp [h1],h2⟩
theorem eX{sz:Nat}{v:Value}{r:Result Value}(hr:∃ v',r = .ok v' w∧aj m h v v'):Lays P m h w sz none v r:=hr
theorem lf{ρ ρ':Operand→Value}{o:Oper}{sz:Nat}{v:Value}{ob:Option af}(he:opP P ρ sz o=some (v,ob))(hr:∀ x∈o.op.operands.toList,aj m h (ρ x) (ρ' x)) :
  r8 P m h w sz ob v ((execOp ρ' o).run P w):=by
 obtain ⟨dst,op,type,pos,after,guard⟩:=o;unfold opP at he;simp only at he hr;split at he
 ·cases he; exact ⟨_,rfl,hr _ (by simp [Op.operands])⟩
 ·cases he; exact ⟨_,rfl,hr _ (by simp [Op.operands])⟩
 ·rename_i c a b
  have hc:=hr c (by simp [Op.operands])
  split at he
  ·rename_i hb; rw [hb] at hc; cases he
   exact ⟨_,by simp [execOp,hc.of_bool,asBool],hr _ (by simp [Op.operands])⟩
  ·rename_i hb; rw [hb] at hc; cases he
   exact ⟨_,by simp [execOp,hc.of_bool,asBool],hr _ (by simp [Op.operands])⟩
  ·cases he
 ·obtain ⟨z,hz,hvo⟩:=Option.map_eq_some_iff.1 he
  cases hvo;exact (u4 hz).next
 ·split at he
  ·rename_i hj
   cases he;exact (Av hj (hr _ (by simp [Op.operands]))).next
  ·cases he
 ·rename_i t parts
  obtain ⟨z,hz,hvo⟩:=Option.map_eq_some_iff.1 he;cases hvo;refine Lays.next (s:=Instr.build t (parts.map fun (i,x)=>(i,ρ' x))) (eX (tg hz ?_))
  have:=qH (m:=m) (h:=h) (ρ:=ρ) (ρ':=ρ') (ps:=parts.toList) (fun p hp=>hr p.2 (by simp [Op.operands]; exact ⟨p.1,by simpa using hp⟩))
  simpa using this
 ·rename_i t len parts
  obtain ⟨⟨z1,z2⟩,hz,hvo⟩:=Option.map_eq_some_iff.1 he;cases hvo;have hp:=qH (m:=m) (h:=h) (ρ:=ρ) (ρ':=ρ') (ps:=parts.toList) (fun p hp=>hr p.2 (by simp [Op.operands]; exact ⟨p.1,by simpa using hp⟩))
  have:=mC (w:=w) (qs:=parts.map fun p=>(p.1,ρ' p.2)) hz (by simpa using hp)
  exact this.next
 ·rename_i x
  have hx:=hr x (by simp [Op.operands])
  split at he
  ·rename_i a hb; rw [hb] at hx; cases he
   obtain ⟨b,off,r,off',rfl,hv,hh⟩:=hx.fG;exact ⟨_,by simp [execOp,hv],.ptr hh⟩
  ·cases he
 ·rename_i op t x y yt
  obtain ⟨z,hz,hvo⟩:=Option.map_eq_some_iff.1 he;cases hvo;obtain ⟨h1,h2⟩:=xz (w:=w) (ox:=x) (oy:=y) hz (hr x (by simp [Op.operands])) (hr y (by simp [Op.operands]))
  refine ⟨v,?_,.flat h2⟩
  simp only [execOp];rw [Sem.run_bind,h1];rfl
 ·rename_i op t x
  obtain ⟨z,hz,hvo⟩:=Option.map_eq_some_iff.1 he;cases hvo;obtain ⟨h1,h2⟩:=Ap (P:=P) (w:=w) hz (hr x (by simp [Op.operands]))
  exact Lays.next (s:=Op.unary op (ρ' x)) (eX ⟨_,h1,.flat h2⟩)
 ·rename_i src dst x
  obtain ⟨z,hz,hvo⟩:=Option.map_eq_some_iff.1 he;cases hvo;obtain ⟨h1,h2⟩:=uY (P:=P) (w:=w) hz (hr x (by simp [Op.operands]))
  exact Lays.next (s:=convert src dst (ρ' x)) (eX ⟨_,h1,.flat h2⟩)
 ·rename_i f first captured
  cases he;refine ⟨_,rfl,?_⟩
  refine .func (by simp) ?_ (by simp) ?_
  ·intro i v v' h1 h2
   simp only [Array.getElem?_map,Option.map_eq_some_iff] at h1 h2
   obtain ⟨a,ha,rfl⟩:=h1;obtain ⟨b,hb,rfl⟩:=h2;rw [ha] at hb; cases hb;exact hr a (by simp only [Op.operands,Array.toList_append,List.mem_append]; exact .inl (Array.mem_toList_iff.2 (Array.mem_of_getElem? ha)))
  ·intro i v v' h1 h2
   simp only [Array.getElem?_map,Option.map_eq_some_iff] at h1 h2
   obtain ⟨a,ha,rfl⟩:=h1;obtain ⟨b,hb,rfl⟩:=h2;rw [ha] at hb; cases hb;exact hr a (by simp only [Op.operands,Array.toList_append,List.mem_append]; exact .inr (Array.mem_toList_iff.2 (Array.mem_of_getElem? ha)))
 ·cases he
  refine ⟨.map (some w.heap.size),.map #[] 0,0,rfl,.map (.inr ⟨_,ew⟩),?_⟩
  intro m' h' l;exact ⟨#[],by show (w.heap.push _)[_]? = _; simp,rfl,fun i e f h1 _=>by simp at h1⟩
 ·rename_i t l c
  obtain ⟨⟨z1,z2⟩,hz,hvo⟩:=Option.map_eq_some_iff.1 he;cases hvo;have:=nO (w:=w) hz (hr l (by simp [Op.operands])) (hr c (by simp [Op.operands]))
  exact this.next
 ·rename_i t x lo hi mx
  obtain ⟨z,hz,hvo⟩:=Option.map_eq_some_iff.1 he;cases hvo;exact Lays.next (s:=Instr.sliceAt t (ρ' x) (lo.map ρ') (hi.map ρ') (mx.map ρ')) (eX (tx hz (hr x (by simp [Op.operands]))
    (o9.map fun y hy=>hr y (by simp [Op.operands,hy])) (o9.map fun y hy=>hr y (by simp [Op.operands,hy])) (o9.map fun y hy=>hr y (by simp [Op.operands,hy]))))
 ·rename_i s x f
  obtain ⟨z,hz,hvo⟩:=Option.map_eq_some_iff.1 he;cases hvo;exact Lays.next (s:=Instr.fieldAt s (ρ' x) f) (eX (nM hz (hr x (by simp [Op.operands]))))
 ·rename_i s x f
  obtain ⟨z,hz,hvo⟩:=Option.map_eq_some_iff.1 he;cases hvo;exact Lays.next (s:=Instr.field s (ρ' x) f) (eX (tl hz (hr x (by simp [Op.operands]))))
 ·rename_i t x ix
  obtain ⟨z,hz,hvo⟩:=Option.map_eq_some_iff.1 he;cases hvo;exact Lays.next (s:=Instr.indexAt t (ρ' x) (ρ' ix)) (eX (nN hz (hr x (by simp [Op.operands])) (hr ix (by simp [Op.operands]))))
 ·rename_i t x ix
  obtain ⟨z,hz,hvo⟩:=Option.map_eq_some_iff.1 he;cases hvo;exact Lays.next (s:=Instr.index t (ρ' x) (ρ' ix)) (eX (tt hz (hr x (by simp [Op.operands])) (hr ix (by simp [Op.operands]))))
 ·rename_i t ix
  have hx:=hr t (by simp [Op.operands])
  split at he
  ·rename_i vs hb; rw [hb] at hx
   obtain ⟨z,hz,hvo⟩:=Option.map_eq_some_iff.1 he;cases hvo;obtain ⟨vs',hv,h1,h2⟩:=hx.kx;have hlt:ix<vs'.size:=h1▸(Array.getElem?_eq_some_iff.1 hz).1
   refine ⟨vs'[ix],?_,h2 ix v vs'[ix] hz (Array.getElem?_eq_getElem hlt)⟩
   simp [execOp,hv,Instr.extract,Array.getElem?_eq_getElem hlt]
  ·cases he
 ·rename_i c
  split at he
  ·rename_i b hcal
   obtain ⟨z,hz,hvo⟩:=Option.map_eq_some_iff.1 he;cases hvo;have hargs:aD m h (c.args.toList.map ρ) (c.args.map ρ').toList:=by
     rw [Array.toList_map];exact aD.map fun x hx=>hr x (by simp only [Op.operands,Call.operands,hcal,Array.toList_append,List.mem_append]; exact .inr hx)
   obtain ⟨v',h1,h2⟩:=pc (P:=P) (w:=w) (ty:=type) (cs:=c.args.map fun | .const _=>true | _=>false) hz hargs
   refine ⟨v',?_,h2⟩
   simp only [execOp,resolve,hcal,Sem.run_bind,Sem.run_pure,Result.andThen_ok,invoke];exact h1
  ·cases he
 ·cases he
end
section
variable {P:Program} {w:World} {m:BM} {h:HG}
theorem cell_of{r off:Nat}{c:Array Value}{ty:TypeId}{fr:Nat×Nat}(hc:w.heap[r]? = some (.cells c ty fr)):w.cell? ⟨r,off,none⟩=c[off]?:=by
 simp [World.cell?,hc]
theorem kO{r off:Nat}{c:Array Value}{ty:TypeId}{fr:Nat×Nat}(hc:w.heap[r]? = some (.cells c ty fr))(hf:¬ (fr.1≤off∧off<fr.2)):w.frozen? ⟨r,off,none⟩=false:=by
 obtain ⟨lo,hi⟩:=fr;simp only [World.frozen?,hc];simp at hf ⊢;omega
theorem sG{r off:Nat}{c:Array Value}{ty:TypeId}{fr:Nat×Nat}{v:Value}{md:Mode}(hc:w.heap[r]? = some (.cells c ty fr))(hv:c[off]? = some v):(load ⟨r,off,none⟩ md).run P w = .ok v w:=by
 simp [cell_of hc,hv]
theorem nt{r:Nat}{c:Array Value}{ty:TypeId}{fr:Nat×Nat}(hc:w.heap[r]? = some (.cells c ty fr))(off:Nat):∀ (n i:Nat) (acc:Array Value),off+i+n≤c.size →
  (loadCellsFrom ⟨r,off,none⟩ i n acc).run P w = .ok (acc++c.extract (off+i) (off+i+n)) w
 | 0,i,acc,hb=>by simp [loadCellsFrom]; omega
 | n+1,i,acc,hb=>by
   have hv:c[off+i]? = some c[off+i]:=Array.getElem?_eq_getElem (by omega)
   simp only [loadCellsFrom,dS,Sem.run_bind,sG hc hv,Result.andThen_ok];rw [nt hc off n (i+1) _ (by omega)]
   congr 1
   apply Array.ext'
   simp only [Array.toList_append,Array.toList_push,Array.toList_extract,List.append_assoc,List.extract_eq_take_drop];congr 1
   have hl:off+i<c.toList.length:=by simp; omega
   rw [show off+i+(n+1)-(off+i)=n+1 from by omega,show off+(i+1)+n-(off+(i+1))=n from by omega]
   rw [List.drop_eq_getElem_cons hl,List.take_succ_cons];simp [Nat.add_assoc]
theorem run_loadCells{r off n:Nat}{c:Array Value}{ty:TypeId}{fr:Nat×Nat}(hc:w.heap[r]? = some (.cells c ty fr))(hb:n=0∨off+n≤c.size) :
  (loadCells ⟨r,off,none⟩ n).run P w = .ok (c.extract off (off+n)) w:=by
 unfold loadCells;rcases hb with rfl | hb
 ·simp [loadCellsFrom]; omega
 ·rw [nt hc off n 0 #[] (by omega)]
  simp
theorem ext_toList(c:Array Value)(a n:Nat):(c.extract a (a+n)).toList=(c.toList.drop a).take n:=by simp
theorem vw(c:Array Value)(a n:Nat):((c.toList.drop a).take n).toArray=c.extract a (a+n):=by
 apply Array.ext'; simp
theorem cg.row{s:cg m h w}{b:Nat}{ty:TypeId}{cs:List Value}{ro:Bool}(hb:h b=some (.cells ty cs ro)){x:Nat×Nat×Nat}(hx:m b=some x) :
  ∃ c fr,w.heap[x.1]? = some (.cells c ty fr)∧x.2.1+cs.length≤x.2.2∧x.2.2≤c.size ∧
    (∀ (i:Nat) (v v':Value),cs[i]? = some v→c[x.2.1+i]? = some v'→aj m h v v')∧((ro=false→∀ j,j≤c.size→¬ (fr.1≤j∧j<fr.2))∧(ro=true→keysBox cs=true→x.2.1=0)):=by
 obtain ⟨o,ho,hr⟩:=s.dom b x hx;rw [hb] at ho; cases ho;exact hr
theorem lk{cs:List Value}{c:Array Value}{δ off n:Nat}{r:List Value}(hr:eA cs off n=some r)(hl : δ + cs.length≤c.size)
  (hc:∀ (i:Nat) (v v':Value),cs[i]? = some v→c[δ + i]? = some v'→aj m h v v'):aD m h r ((c.toList.drop (δ + off)).take n)∧(n=0∨off+n≤cs.length)∧r.length=n:=by
 unfold eA at hr;split at hr
 ·rename_i hn
  cases hr;have hb:n≤cs.length-off:=by simp at hn; omega
  by_cases h0:n=0
  ·subst h0
   exact ⟨⟨by simp,fun i v v' h1 h2=>by simp at h1⟩,.inl rfl,hn⟩
  ·have hb2:off+n≤cs.length:=by omega
   refine ⟨⟨by simp; omega,?_⟩,.inr hb2,hn⟩
   intro i v v' h1 h2;rw [List.getElem?_take] at h1 h2
   split at h1
   ·rename_i hi
    rw [if_pos hi] at h2;rw [List.getElem?_drop] at h1 h2
    refine hc (off+i) v v' h1 ?_
    rw [← h2]; simp [Nat.add_assoc]
   ·cases h1
 ·cases hr
theorem oz(s:cg m h w){t:TypeId}{x x' v:Value}(he:aLoad P h t x=some v)(rx:aj m h x x') :
  ∃ v',(Instr.loadAt t x').run P w = .ok v' w∧aj m h v v':=by
 unfold aLoad at he;split at he
 ·rename_i a
  obtain ⟨b,off,r,off',rfl,rfl,hh⟩:=rx.fG;split at he
  ·rename_i ty cs ro hb
   rcases hh with hh | ⟨δ,E,hm,rfl⟩
   ·dsimp only at hb; rw [hb] at hh; cases hh
   ·obtain ⟨c,fr,h1,h2,h3,h4,_⟩:=cg.row (s:=s) hb hm
    dsimp only at h1 h2 h3 h4
    split at he
    ·rename_i n ha hn
     obtain ⟨rr,hr,rfl⟩:=Option.map_eq_some_iff.1 he;dsimp only at hr
     obtain ⟨h5,h6,_⟩:=lk hr (by omega) h4
     refine ⟨.agg (c.extract (δ + off) (δ + off+n)),?_,by have:=aj.Ar h5; rwa [vw] at this⟩
     simp only [Instr.loadAt,Instr.sureAddr,Sem.run_bind,Sem.run_pure,Result.andThen_ok,loadVar,pN ha,if_true,bB hn];rw [run_loadCells h1 (by rcases h6 with h6 | h6; exact .inl h6; exact .inr (by omega))]
     rfl
    ·rename_i n ha hn
     dsimp only at he
     have hlt:off<cs.length:=(List.getElem?_eq_some_iff.1 he).1
     have hv:c[δ + off]? = some c[δ + off]:=Array.getElem?_eq_getElem (by omega)
     refine ⟨_,?_,h4 off v _ he hv⟩
     simp only [Instr.loadAt,Instr.sureAddr,Sem.run_bind,Sem.run_pure,Result.andThen_ok,loadVar,pN ha,Bool.false_eq_true,if_false];exact sG h1 hv
    ·cases he
  ·cases he
 ·cases he
theorem qq(d:TypeDesc)(a b:Value):keyEq d a b=Instr.sameNow d a b∨keyEq d a b=none:=by
 unfold keyEq;split
 ·left; rfl
 ·left; simp [Instr.sameNow,oh]
 ·left; rfl
 ·right; rfl
theorem run_checkKey{t:TypeId}{d:TypeDesc}(hu:P.underlying t=some d)(hd:(∃ k,d = .int k)∨d = .string∨d = .bool)(n:Nat)(e:Bool)(k:Value)(w':World) :
  (Instr.checkKey e (n+1) t k).run P w' = .ok () w':=by
 rw [Instr.checkKey];simp only [Sem.run_bind,al hu,Result.andThen_ok];rcases hd with ⟨kk,rfl⟩ | rfl | rfl <;> rfl
theorem eC{t:TypeId}{d:TypeDesc}(hk:keyKind P t=some d):P.underlying t=some d∧(∀ e k w',(Instr.checkKey e 10000 t k).run P w' = .ok () w'):=by
 unfold keyKind at hk;split at hk
 ·rename_i k hu; cases hk
  exact ⟨hu,run_checkKey hu (by simp) 9999⟩
 ·rename_i hu; cases hk
  exact ⟨hu,run_checkKey hu (by simp) 9999⟩
 ·rename_i hu; cases hk
  exact ⟨hu,run_checkKey hu (by simp) 9999⟩
 ·cases hk
theorem jl.list{es:List (Value×Value×Nat)}{fs:Array MapEntry}(r:jl m h es fs):es.length=fs.toList.length ∧
  ∀ (i:Nat) (e:Value×Value×Nat) (f:MapEntry),es[i]? = some e→fs.toList[i]? = some f→AI.flat e.1=true∧f.key=e.1∧aj m h e.2.1 f.val∧f.born=e.2.2 :=
 ⟨by simpa using r.1,fun i e f h1 h2=>r.2 i e f h1 (by simpa using h2)⟩
theorem fE{d:TypeDesc}{k:Value}:∀ {es:List (Value×Value×Nat)} {fs:List MapEntry} {i:Nat} {r:Option (Nat×Value)},findE d k es i=some r→es.length=fs.length →
  (∀ (i:Nat) (e:Value×Value×Nat) (f:MapEntry),es[i]? = some e→fs[i]? = some f→AI.flat e.1=true∧f.key=e.1∧aj m h e.2.1 f.val∧f.born=e.2.2) →
  match r with
  | none=>Instr.findNow d k fs i=some none
  | some (j,v)=>∃ v',Instr.findNow d k fs i=some (some (j,v'))∧aj m h v v'∧i≤j∧j<i+es.length∧∃ e,es[j-i]? = some e∧v=e.2.1∧keyEq d k e.1=some true
 | [],fs,i,r,he,hl,hr=>by
   simp [findE] at he; subst he;cases fs with
   | nil=>rfl
   | cons f fs=>simp at hl
 | e::es,[],i,r,he,hl,hr=>by simp at hl
 | e::es,f::fs,i,r,he,hl,hr=>by
   obtain ⟨h1,h2,h3,h4⟩:=hr 0 e f rfl rfl;simp only [findE] at he;split at he
   ·rename_i hk
    cases he;refine ⟨f.val,?_,h3,Nat.le_refl _,by simp,e,by simp,rfl,hk⟩
    rcases qq d k e.1 with hs | hs
    ·simp only [Instr.findNow,h2,← hs,hk]
    ·rw [hk] at hs; cases hs
   ·rename_i hk
    have ih:=fE (i:=i+1) he (by simpa using hl) (fun i e f a b=>hr (i+1) e f (by simpa using a) (by simpa using b))
    have hs:Instr.sameNow d k f.key=some false:=by
      rcases qq d k e.1 with hs | hs
      ·rw [h2,← hs,hk]
      ·rw [hk] at hs; cases hs
    cases r with
    | none=>simp only [Instr.findNow,hs]; exact ih
    | some p =>
      obtain ⟨j,v⟩:=p;obtain ⟨v',g1,g2,g3,g4,x,g5,g6⟩:=ih;refine ⟨v',by simp only [Instr.findNow,hs]; exact g1,g2,by omega,by simp; omega,x,?_,g6⟩
      rw [show j-i=(j-(i+1))+1 from by omega]
      simpa using g5
   ·cases he
theorem cg.maps(s:cg m h w){b:Nat}{es:List (Value×Value×Nat)}{cl:Nat}{ro:Bool}(hb:h b=some (.map es cl ro)){x:Nat×Nat×Nat}(hx:m b=some x) :
  ∃ fs,w.heap[x.1]? = some (.map fs cl)∧jl m h es fs:=by
 obtain ⟨o,ho,hr⟩:=s.dom b x hx;rw [hb] at ho; cases ho;exact hr
theorem c9{r:Nat}{fs:Array MapEntry}{cl:Nat}(hf:w.heap[r]? = some (.map fs cl)):(getObj r).run P w = .ok (.map fs cl) w:=by
 simp [getObj,Sem.run,hf]
theorem run_findKey{key:TypeId}{d:TypeDesc}{k:Value}{es:List MapEntry}{r:Option (Nat×Value)}(hu:P.underlying key=some d)(hn:Instr.findNow d k es 0=some r):(Instr.findKey key k es).run P w = .ok r w:=by
 simp [Instr.findKey,al hu,hn]
theorem sH{t:TypeId}{z:Value}(hz:(P.info? t).bind (·.zero)=some z):(zeroValue t).run P w = .ok z w:=by
 cases hi:P.info? t with
 | none=>simp [hi] at hz
 | some i=>simp [hi] at hz; simp [zeroValue,ef hi,hz]
def BW(w:World)(x:Value)(fs:Array MapEntry):Prop:=(x = .map none∧fs = #[])∨∃ r cl,x = .map (some r)∧w.heap[r]? = some (.map fs cl)
theorem ye{t key elem:TypeId}{x k:Value}{ok:Bool}{fs:Array MapEntry}{j:Nat}{v:Value}(hu:P.underlying t=some (.map key elem))(hr:BW w x fs)
  (hck:∀ e k w',(Instr.checkKey e 10000 key k).run P w' = .ok () w') (hf:(Instr.findKey key k fs.toList).run P w = .ok (some (j,v)) w) :
  (Instr.lookup t x k ok).run P w = .ok (if ok then .tuple #[v,.bool true] else v) w:=by
 rcases hr with ⟨rfl,rfl⟩ | ⟨r,cl,rfl,hr⟩
 ·simp only [Instr.lookup,Sem.run_bind,al hu,Result.andThen_ok,Sem.run_pure,hck,hf]
 ·simp only [Instr.lookup,Sem.run_bind,al hu,Result.andThen_ok,Sem.run_pure,hck,hf,c9 hr]
theorem wa{t key elem:TypeId}{x k z:Value}{ok:Bool}{fs:Array MapEntry}(hu:P.underlying t=some (.map key elem))(hr:BW w x fs)
  (hck:∀ e k w',(Instr.checkKey e 10000 key k).run P w' = .ok () w') (hf:(Instr.findKey key k fs.toList).run P w = .ok none w) (hz:(zeroValue elem).run P w = .ok z w) :
  (Instr.lookup t x k ok).run P w = .ok (if ok then .tuple #[z,.bool false] else z) w:=by
 rcases hr with ⟨rfl,rfl⟩ | ⟨r,cl,rfl,hr⟩
 ·simp only [Instr.lookup,Sem.run_bind,al hu,Result.andThen_ok,Sem.run_pure,hck,hf,hz]
 ·simp only [Instr.lookup,Sem.run_bind,al hu,Result.andThen_ok,Sem.run_pure,hck,hf,c9 hr,hz]
theorem rL(s:cg m h w){t:TypeId}{x x' k k' v:Value}{ok:Bool}(he:aLookup P h t x k ok=some v)(rx:aj m h x x')(rk:aj m h k k') :
  ∃ v',(Instr.lookup t x' k' ok).run P w = .ok v' w∧aj m h v v':=by
 unfold aLookup at he;split at he
 ·rename_i key elem hu
  split at he
  ·rename_i d z hk hz
   split at he
   ·rename_i hp
    simp only [Bool.and_eq_true] at hp;obtain rfl:=rk.of_flat hp.2;obtain ⟨hku,hck⟩:=eC hk;have pair:∀ (a b:Value) (c:Bool),aj m h a b→aj m h (if ok then .tuple #[a,.bool c] else a) (if ok then .tuple #[b,.bool c] else b):=by
      intro a b c r;cases ok
      ·exact r
      ·refine .tuple rfl fun i v v' h1 h2=>?_
       cases i with
       | zero=>simp at h1 h2; subst h1; subst h2; exact r
       | succ i=>cases i with
         | zero=>simp at h1 h2; subst h1; subst h2; exact .flat rfl
         | succ i=>simp at h1
    split at he
    ·cases he
    ·rename_i es hes
     have hread:∃ fs:Array MapEntry,BW w x' fs∧jl m h es fs:=by
       split at hes
       ·cases hes
        obtain rfl:=rx.of_flat rfl;exact ⟨#[],.inl ⟨rfl,rfl⟩,rfl,fun i e f h1 _=>by simp at h1⟩
       ·rename_i b
        obtain ⟨r,rfl,hh⟩:=rx.of_map;split at hes
        ·rename_i es' cl ro hb
         cases hes;rcases hh with hh | ⟨y,hm⟩
         ·rw [hb] at hh; cases hh
         ·obtain ⟨fs,h1,h2⟩:=s.maps hb hm
          exact ⟨fs,.inr ⟨r,cl,rfl,h1⟩,h2⟩
        ·cases hes
       ·cases hes
     obtain ⟨fs,hfs,hrel⟩:=hread;have hlist:=hrel.list
     split at he
     ·cases he
     ·rename_i j u hfd
      cases he;obtain ⟨v',g1,g2,_⟩:=fE hfd hlist.1 hlist.2;refine ⟨_,?_,pair _ _ true g2⟩
      exact ye hu hfs hck (run_findKey hku g1)
     ·rename_i hfd
      cases he;have g1:=fE hfd hlist.1 hlist.2
      refine ⟨_,?_,pair _ _ false (aj.plain hp.1)⟩
      exact wa hu hfs hck (run_findKey hku g1) (sH hz)
   ·cases he
  ·cases he
 ·cases he
theorem mM:∀ {cs:List Value} {bs:List UInt8},bytesOf cs=some bs→∃ xs:List Int,cs=xs.map (Value.int .u8)∧bs=xs.map fun n=>UInt8.ofNat n.toNat
 | [],bs,he=>by simp [bytesOf] at he; subst he; exact ⟨[],rfl,rfl⟩
 | c::cs,bs,he=>by
   unfold bytesOf at he;split at he
   ·rename_i hc; cases hc
   ·rename_i n r hc
    cases hc;obtain ⟨bs',h1,rfl⟩:=Option.map_eq_some_iff.1 he;obtain ⟨xs,rfl,rfl⟩:=mM h1;exact ⟨n::xs,rfl,rfl⟩
   ·cases he
theorem j8(s:cg m h w){src dst:TypeId}{x x' v:Value}(he:aBytesToString P h src dst x=some v)(rx:aj m h x x') :
  (convert src dst x').run P w = .ok v w∧AI.flat v=true:=by
 unfold aBytesToString at he;split at he
 ·rename_i e hs hd
  obtain rfl:=rx.of_flat rfl;split at he
  ·rename_i hu; cases he
   exact ⟨run_convert_bytes_nil w src e hs hu 0 0 dst hd,rfl⟩
  ·cases he
 ·rename_i e a len c hs hd
  obtain ⟨b,off,r,off',cap,rfl,rfl,hlc,hh⟩:=rx.of_slice;split at he
  ·rename_i ty cs ro hu hb
   split at he
   ·rename_i rr hr
    obtain ⟨bs,h1,rfl⟩:=Option.map_eq_some_iff.1 he;obtain ⟨xs,rfl,rfl⟩:=mM h1;rcases hh with hh | ⟨δ,E,hm,h2,h3⟩
    ·dsimp only at hb; rw [hb] at hh; cases hh
    ·obtain ⟨cc,fr,g1,g2,g3,g4,_⟩:=cg.row (s:=s) hb hm
     dsimp only at g1 g2 g3 g4 hr
     obtain ⟨h5,h6,h7⟩:=lk hr (by omega) g4
     have hf:(xs.map (Value.int .u8)).all AI.flat=true:=by simp [AI.flat]
     have h8:=h5.qC hf
     refine ⟨?_,rfl⟩
     have:=run_convert_bytes_arg (P:=P) w src e hs hu r off' len cap xs (by simpa using h7) (fun i hi=>?_) dst hd
     ·exact this
     ·rcases h2 with rfl | h2
      ·rw [cell_of g1]
       have h9:((cc.toList.drop (δ + off)).take len)[i]? = some (.int .u8 (xs.getD i 0)):=by
         rw [h8];have hx:i<xs.length:=by simp at h7; omega
         simp [List.getElem?_map,List.getElem?_eq_getElem hx,List.getD_eq_getElem?_getD]
       rw [List.getElem?_take,if_pos hi,List.getElem?_drop] at h9
       simpa using h9
      ·omega
   ·cases he
  ·cases he
 ·cases he
theorem rN(s:cg m h w){src dst:TypeId}{x x' v:Value}(he:aUnsafe P h src dst x=some v)(rx:aj m h x x') :
  ∃ v',(convert src dst x').run P w = .ok v' w∧aj m h v v':=by
 unfold aUnsafe at he;split at he
 ·rename_i t hs hd
  obtain rfl:=rx.of_flat rfl;cases he;exact ⟨_,by simp [convert,al hs,al hd,Conv.unsafePointer],.flat rfl⟩
 ·rename_i t a hs hd
  obtain ⟨b,off,r,off',rfl,rfl,hh⟩:=rx.fG;split at he
  ·rename_i ty cs ro n hb hn
   split at he
   ·cases he
   ·rename_i hc
    cases he;rcases hh with hh | ⟨δ,E,hm,rfl⟩
    ·dsimp only at hb; rw [hb] at hh; cases hh
    ·obtain ⟨cc,fr,g1,g2,g3,g4,_⟩:=cg.row (s:=s) hb hm
     dsimp only at g1 g2 g3 g4 hc
     refine ⟨_,?_,.ptr (.inr ⟨δ,E,hm,rfl⟩)⟩
     have hsh:w.shape? r=some (ty,cc.size):=by simp [World.shape?,g1]
     have hnc:¬ cc.size≤δ + off:=by omega
     have hn0:n≠0:=by omega
     simp [convert,al hs,al hd,Conv.unsafePointer,Conv.seenAt,viewAt,hsh,cellsIn,bB hn,hnc,hn0]
  ·cases he
 ·rename_i t hs hd
  obtain rfl:=rx.of_flat rfl;cases he;exact ⟨_,by simp [convert,al hs,al hd,Conv.unsafePointer],.flat rfl⟩
 ·cases he
theorem rK(s:cg m h w){t:TypeId}{x x' v:Value}{ts:Array TypeId}{ty:TypeId}{xs:Array Value}(he:aLenMap P h t x=some v)(rx:aj m h x x')(ht:ts[0]? = some t)(hx:xs[0]? = some x') :
  (Builtin.len_ ts ty xs).run P w = .ok v w∧AI.flat v=true:=by
 unfold aLenMap at he;split at he
 ·rename_i b hu
  obtain ⟨r,rfl,hh⟩:=rx.of_map;split at he
  ·rename_i es cl ro hb
   cases he;rcases hh with hh | ⟨y,hm⟩
   ·rw [hb] at hh; cases hh
   ·obtain ⟨fs,h1,h2⟩:=s.maps hb hm
    exact ⟨by simp [Builtin.len_,ht,hx,al hu,c9 h1,h2.1],rfl⟩
  ·cases he
 ·cases he
theorem sA(s:cg m h w){ρ ρ':Operand→Value}{o:Oper}{v:Value}(he:opR P ρ h o=some v)(hr:∀ x∈o.op.operands.toList,aj m h (ρ x) (ρ' x)) :
  ∃ v',(execOp ρ' o).run P w = .ok (.value v') w∧aj m h v v':=by
 obtain ⟨dst,op,type,pos,after,guard⟩:=o;unfold opR at he;simp only at he hr;split at he
 ·obtain ⟨v',h1,h2⟩:=oz (P:=P) s he (hr _ (by simp [Op.operands]))
  exact ⟨v',by simp [execOp,h1],h2⟩
 ·rename_i t x k ok
  obtain ⟨v',h1,h2⟩:=rL (P:=P) s he (hr x (by simp [Op.operands])) (hr k (by simp [Op.operands]))
  exact ⟨v',by simp [execOp,h1],h2⟩
 ·rename_i src dst x
  split at he
  ·rename_i u hu
   cases he;obtain ⟨h1,h2⟩:=j8 (P:=P) s hu (hr x (by simp [Op.operands]))
   exact ⟨v,by simp [execOp,h1],.flat h2⟩
  ·obtain ⟨v',h1,h2⟩:=rN (P:=P) s he (hr x (by simp [Op.operands]))
   exact ⟨v',by simp [execOp,h1],h2⟩
 ·rename_i c
  split at he
  ·rename_i t tr x xr hcal hts hxs
   have hx:aj m h (ρ x) (ρ' x):=hr x (by
     simp only [Op.operands,Call.operands,hcal,Array.toList_append,List.mem_append];exact .inr (by rw [hxs]; exact .head _))
   have ht0:c.argTypes[0]? = some t:=by
     have:c.argTypes.toList[0]? = some t:=by rw [hts]; rfl
     simpa using this
   have hx0:(c.args.map ρ')[0]? = some (ρ' x):=by
     have:c.args.toList[0]? = some x:=by rw [hxs]; rfl
     have:c.args[0]? = some x:=by simpa using this
     simp [this]
   obtain ⟨h1,h2⟩:=rK (P:=P) (ty:=type) s he hx ht0 hx0;refine ⟨v,?_,.flat h2⟩
   simp only [execOp,resolve,hcal,Sem.run_bind,Sem.run_pure,Result.andThen_ok,invoke,builtin,h1]
  ·cases he
 ·cases he
end
def jS(w:World)(r:Nat)(o:Obj):World:={ w with heap:=w.heap.setIfInBounds r o }
theorem pS{w:World}{r:Nat}{o o':Obj}(h:w.heap[r]? = some o'):(jS w r o).heap[r]? = some o:=by
 have hr:r<w.heap.size:=(Array.getElem?_eq_some_iff.1 h).1
 show (w.heap.setIfInBounds r o)[r]? = _
 simp [hr]
theorem pT{w:World}{r k:Nat}{o:Obj}(h:k≠r):(jS w r o).heap[k]? = w.heap[k]?:=by
 show (w.heap.setIfInBounds r o)[k]? = _
 rw [Array.getElem?_setIfInBounds_ne (Ne.symm h)]
theorem s4{w:World}{r:Nat}{o:Obj}:(jS w r o).heap.size=w.heap.size:=by
 show (w.heap.setIfInBounds r o).size=_
 simp
theorem sZ{w:World}{r:Nat}{o:Obj}(h:w.heap[r]? = some o):jS w r o=w:=by
 have:w.heap.setIfInBounds r o=w.heap:=by
  apply Array.ext'
  apply List.ext_getElem?
  intro i;simp only [Array.toList_setIfInBounds];by_cases e:i=r
  ·subst e
   have hr:i<w.heap.size:=(Array.getElem?_eq_some_iff.1 h).1
   rw [List.getElem?_set_self (by simpa using hr)]
   simpa using h.symm
  ·rw [List.getElem?_set_ne (Ne.symm e)]
 unfold jS;rw [this]
theorem Bv{w:World}{r:Nat}{o o':Obj}:jS (jS w r o) r o'=jS w r o':=by
 unfold jS;simp
theorem uA{w:World}{r off:Nat}{c:Array Value}{ty:TypeId}{fr:Nat×Nat}{v:Value}(h:w.heap[r]? = some (.cells c ty fr)) :
  w.setCell ⟨r,off,none⟩ v=jS w r (.cells (c.setIfInBounds off v) ty fr):=by
 unfold World.setCell jS;congr 1
 apply Array.ext'
 apply List.ext_getElem?
 intro i;simp only [Array.toList_modify,Array.toList_setIfInBounds,List.getElem?_modify]
 have hr:r<w.heap.size:=(Array.getElem?_eq_some_iff.1 h).1
 by_cases e:r=i
 ·subst e
  rw [List.getElem?_set_self (by simpa using hr)]
  have h':w.heap.toList[r]? = some (.cells c ty fr):=by simpa using h
  simp [h']
 ·rw [List.getElem?_set_ne e]
  simp [e]
section
variable {P:Program} {w:World} {m:BM} {h:HG}
theorem yo{r off:Nat}{c:Array Value}{ty:TypeId}{fr:Nat×Nat}{v:Value}{md:Mode}(hc:w.heap[r]? = some (.cells c ty fr))(ho:off<c.size)(hf:¬ (fr.1≤off∧off<fr.2))(h1:v.oneCell'=true) :
  (store ⟨r,off,none⟩ v md).run P w = .ok () (jS w r (.cells (c.setIfInBounds off v) ty fr)):=by
 rw [run_store P w _ v md h1,cell_of hc,Array.getElem?_eq_getElem ho]
 simp only [kO hc hf,Bool.false_eq_true,if_false];rw [uA hc]
theorem ij{r off:Nat}{ty:TypeId}{fr:Nat×Nat}:∀ (vs:List Value) (i:Nat) (c:Array Value) (w:World),w.heap[r]? = some (.cells c ty fr)→(∀ j,j<c.size→¬ (fr.1≤j∧j<fr.2)) →
  off+i+vs.length≤c.size→(∀ v∈vs,v.oneCell'=true)→(storeCells ⟨r,off,none⟩ vs i).run P w = .ok () (jS w r (.cells (putL c.toList (off+i) vs).toArray ty fr))
 | [],i,c,w,hc,hf,hb,h1=>by
   simp only [storeCells,Sem.run_pure,wI];rw [show c.toList.toArray=c from by simp,sZ hc]
 | v::vs,i,c,w,hc,hf,hb,h1=>by
   have hlen:(v::vs).length=vs.length+1:=rfl
   simp only [storeCells,dS,Sem.run_bind];rw [yo hc (by omega) (hf _ (by omega)) (h1 v (.head _)),Result.andThen_ok]
   rw [ij vs (i+1) (c.setIfInBounds (off+i) v) _ (pS hc) (by simpa using hf) (by simp; omega) (fun u hu=>h1 u (.tail _ hu)),Bv,n5]
   simp [Nat.add_assoc]
theorem dN{b:Nat}{o:af}:bS h b o b=some o:=by simp [bS]
theorem cF{b b':Nat}{o:af}(e:b'≠b):bS h b o b'=h b':=by simp [bS,e]
theorem EG(s:cg m h w){b:Nat}{x:Nat×Nat×Nat}{o o':af}{obj:Obj}(hb:h b=some o)(hm:m b=some x)(hr:rw? h b=true)(hr':rw? (bS h b o') b=true)
  (hw:BRel m (bS h b o') (jS w x.1 obj) x o'):dR m h w m (bS h b o') (jS w x.1 obj):=by
 have hl:Le m h m (bS h b o'):=by
  refine ⟨fun c hc=>?_,fun c y hy=>.inr hy⟩
  by_cases e:c=b
  ·subst e; unfold rw? at hr; rw [hc] at hr; simp at hr
  ·rw [cF e]; exact hc
 refine ⟨hl,⟨?_,?_⟩,by rw [s4]; exact Nat.le_refl _,fun _ _ hx=>.inl hx,?_,fun _ _ _ hm=>hm,fun c oc hc hcm=>by
  have e:c≠b:=by intro e; subst e; rw [hm] at hcm; cases hcm
  rw [cF e]; exact hc,?_,?_,rfl,⟨rfl,fun _=>Nat.le_refl _⟩,rfl⟩
 ·intro c y hy
  by_cases e:c=b
  ·subst e; rw [hm] at hy; cases hy
   exact ⟨o',dN,hw⟩
  ·obtain ⟨oc,hoc,hrc⟩:=s.dom c y hy
   refine ⟨oc,by rw [cF e]; exact hoc,?_⟩
   by_cases hd:oc = .dead
   ·subst hd; trivial
   ·refine hrc.mono hl (pT ?_)
    intro exx;refine e (s.inj b c x y hm hy hr ?_ exx.symm).symm
    unfold aV; rw [hoc]; cases oc <;> simp_all
 ·intro c c' y y' hy hy' hrc hlc e
  have hrc':rw? h c=true:=by
    by_cases ec:c=b
    ·subst ec; exact hr
    ·unfold rw? at hrc ⊢; rwa [cF ec] at hrc
  have hlc':aV h c'=true:=by
    by_cases ec:c'=b
    ·subst ec; exact c8 hr
    ·unfold aV at hlc ⊢; rwa [cF ec] at hlc
  exact s.inj c c' y y' hy hy' hrc' hlc' e
 ·intro r hrr hh
  exact pT (Ne.symm (hh b x hm hr))
 ·intro c oc hoc
  by_cases e:c=b
  ·subst e; exact ⟨o',dN⟩
  ·exact ⟨oc,by rw [cF e]; exact hoc⟩
 ·intro c y hy hrc
  by_cases e:c=b
  ·subst e; exact hr
  ·unfold rw? at hrc ⊢; rwa [cF e] at hrc
theorem jy{b:Nat}{o o':af}(hb:h b=some o)(hd:o≠.dead):Le m h m (bS h b o'):=by
 refine ⟨fun c hc=>?_,fun c y hy=>.inr hy⟩
 by_cases e:c=b
 ·subst e; rw [hb] at hc; cases hc; exact absurd rfl hd
 ·rw [cF e]; exact hc
theorem gE(s:cg m h w){b off:Nat}{ty:TypeId}{cs ns:List Value}{us:List Value}{x:Nat×Nat×Nat}(hb:h b=some (.cells ty cs false))(hm:m b=some x)
  (hn:aD m h ns us) (ho:ns.all isOne=true) (hl:off+ns.length≤cs.length) :
  ∃ w',(storeCells ⟨x.1,x.2.1+off,none⟩ us).run P w = .ok () w'∧dR m h w m (bS h b (.cells ty (putL cs off ns) false)) w':=by
 obtain ⟨c,fr,h1,h2,h3,h4,h5⟩:=cg.row (s:=s) hb hm;have hone:∀ v∈us,v.oneCell'=true:=by
  intro v hv;obtain ⟨i,hi,rfl⟩:=List.getElem_of_mem hv;have hi':i<ns.length:=by rw [hn.1]; exact hi
  have:=hn.2 i ns[i] us[i] (List.getElem?_eq_getElem hi') (List.getElem?_eq_getElem hi)
  exact this.isOne (List.all_eq_true.1 ho _ (List.getElem_mem hi'))
 have hlen:us.length=ns.length:=hn.1.symm
 refine ⟨_,ij us 0 c w h1 (fun j hj=>h5.1 rfl j (Nat.le_of_lt hj)) (by omega) hone,?_⟩
 refine EG s hb hm (by simp [rw?,hb]) (by simp [rw?,dN]) ?_
 have hle:Le m h m (bS h b (.cells ty (putL cs off ns) false)):=jy hb (by simp)
 refine ⟨_,fr,pS h1,by rw [cJ]; exact h2,by simpa [cJ] using h3,?_,fun _ j hj=>h5.1 rfl j (by simpa [cJ] using hj),fun h=>by cases h⟩
 intro i v v' g1 g2;have g2':(putL c.toList (x.2.1+off+0) us)[x.2.1+i]? = some v':=by simpa using g2
 rw [fU] at g1 g2';by_cases hc:off≤i∧i<off+ns.length∧i<cs.length
 ·rw [if_pos hc] at g1
  rw [if_pos (by simp; omega)] at g2'
  rw [show x.2.1+i-(x.2.1+off+0)=i-off from by omega] at g2'
  exact (hn.2 _ _ _ g1 g2').mono hle
 ·rw [if_neg hc] at g1
  have hi:i<cs.length:=(List.getElem?_eq_some_iff.1 g1).1
  rw [if_neg (by simp; omega)] at g2'
  exact (h4 i v v' g1 (by simpa using g2')).mono hle
theorem xM{v:Value}:cellsL v=v.cells.toList:=(bg v).symm
theorem tz(s:cg m h w){t:TypeId}{x x' v v':Value}{es:List eF}(he:aStore P h t x v=some es)(rx:aj m h x x')(rv:aj m h v v') :
  ∃ b o w',es = [.put b o]∧(Instr.storeAt t x' v').run P w = .ok () w'∧dR m h w m (bS h b o) w':=by
 unfold aStore at he;split at he
 ·rename_i a
  obtain ⟨b,off,r,off',rfl,rfl,hh⟩:=rx.fG;split at he
  ·rename_i ty cs hb
   split at he
   ·rename_i n hn
    split at he
    ·rename_i hc
     cases he;simp only [Bool.and_eq_true,decide_eq_true_eq] at hc;obtain ⟨⟨hc1,hc2⟩,hc3⟩:=hc;dsimp only at hb hc3 ⊢
     rcases hh with hh | ⟨δ,E,hm,rfl⟩
     ·rw [hb] at hh; cases hh
     ·have hcells:=rv.cells (by
         cases e:isJunk v with
         | false=>rfl
         | true =>
           unfold isJunk at e;split at e
           ·simp [cellsL,isOne] at hc2
           ·cases e)
      obtain ⟨w',h1,h2⟩:=gE (P:=P) (off:=off) s hb hm hcells hc2 (by omega)
      refine ⟨_,_,w',rfl,?_,h2⟩
      simp only [Instr.storeAt,Instr.sureAddr,Sem.run_bind,Sem.run_pure,Result.andThen_ok,storeVar,bB hn];have hsz:v'.cells.size=n:=by
        have:=hcells.1
        rw [hc1,xM] at this;simpa using this.symm
      rw [if_neg (by simp [hsz]),bg]
      exact h1
    ·cases he
   ·cases he
  ·cases he
 ·cases he
theorem oN:∀ l:List UInt8,(l.map fun b=>(Value.int .u8 b.toNat)).all AI.flat=true
 | []=>rfl
 | b::l=>by simp only [List.map_cons,List.all_cons,oN l,Bool.and_true]; rfl
theorem kE(s:cg m h w){size n:Nat}{x x':Value}{ns:List Value}(he:srcCells h size n x=some ns)(rx:aj m h x x') :
  ∃ c:Array Value,(∀ w',w'.heap=w.heap→(Builtin.firstCells size n x').run P w' = .ok c w')∧aD m h ns c.toList:=by
 unfold srcCells at he;split at he
 ·obtain rfl:=rx.of_flat rfl
  split at he
  ·cases he; exact ⟨#[],fun _ _=>rfl,.nil⟩
  ·cases he
 ·rename_i a len c
  obtain ⟨b,off,r,off',cap,rfl,rfl,hlc,hh⟩:=rx.of_slice;split at he
  ·rename_i h0
   cases he; subst h0;refine ⟨#[],fun w' _=>?_,.nil⟩
   simp [Builtin.firstCells,loadCells,loadCellsFrom]
  ·rename_i hn
   split at he
   ·cases he
   ·rename_i hln
    split at he
    ·rename_i ty cs ro hb
     dsimp only at hb he
     rcases hh with hh | ⟨δ,E,hm,h2,_⟩
     ·rw [hb] at hh; cases hh
     ·obtain ⟨cc,fr,g1,g2,g3,g4,_⟩:=cg.row (s:=s) hb hm
      dsimp only at g1 g2 g3 g4
      obtain ⟨h5,h6,h7⟩:=lk he (by omega) g4
      rcases h2 with rfl | h2
      ·refine ⟨cc.extract (δ + off) (δ + off+n*size),fun w' e=>?_,by rw [ext_toList]; exact h5⟩
       simp only [Builtin.firstCells];exact run_loadCells (by rw [e]; exact g1) (by rcases h6 with h6 | h6; exact .inl h6; exact .inr (by omega))
      ·omega
    ·cases he
 ·rename_i str
  obtain rfl:=rx.of_string;cases he;refine ⟨(str.extract 0 n).data.map fun b=>.int .u8 b.toNat,fun _ _=>rfl,?_⟩
  have e:((str.extract 0 n).data.map fun b=>(Value.int .u8 b.toNat)).toList=(str.data.toList.take n).map fun b=>.int .u8 b.toNat:=by
    rw [Array.toList_map,Lib.extract_data]; simp
  rw [e];exact aD.jc (oN _)
 ·cases he
theorem nz{x x':Value}{n:Nat}(he:srcLen x=some n)(rx:aj m h x x'):∀ w',(Builtin.lenOf x').run P w' = .ok n w':=by
 intro w';unfold srcLen at he;split at he
 ·rename_i a len c
  cases he;cases a with
  | none=>obtain ⟨rfl,_,rfl⟩:=rx.dY; rfl
  | some a=>obtain ⟨_,_,_,_,_,_,rfl,_⟩:=rx.of_slice; rfl
 ·obtain rfl:=rx.of_string; cases he; rfl
 ·cases he
theorem Et{ns us:List Value}(hn:aD m h ns us)(ho:ns.all isOne=true):∀ v∈us,v.oneCell'=true:=by
 intro v hv;obtain ⟨i,hi,rfl⟩:=List.getElem_of_mem hv;have hi':i<ns.length:=by rw [hn.1]; exact hi
 exact (hn.2 i ns[i] us[i] (List.getElem?_eq_getElem hi') (List.getElem?_eq_getElem hi)).isOne (List.all_eq_true.1 ho _ (List.getElem_mem hi'))
theorem nJ(z:Array Value)(n:Nat)(h0:0<z.size):(Builtin.zeroCells z n).toList=repL z.toList n:=by
 unfold Builtin.zeroCells;exact range_zero z n (.inr h0)
theorem sm(n:Nat):∀ (r c:Nat),c≤n+(n+768) / 4→Builtin.growBy n r c≤n+(n+768) / 4
 | 0,c,hc=>hc
 | r+1,c,hc=>by
   unfold Builtin.growBy;split
   ·exact hc
   ·exact sm n r _ (by omega)
theorem yi{n c:Nat}(h1:c<n)(h2:n≤2147483647):Builtin.nextslicecap n c≤4294967296:=by
 unfold Builtin.nextslicecap;split
 ·omega
 ·split
  ·omega
  ·have:=sm n 4 c (by omega)
   omega
structure xo (P:Program) (w:World) (elem:TypeId) (size:Nat) (xd:TypeDesc) (x:Value) (n:Nat) (c:Array Value):Prop where
 other:(∀ k,xd≠.int k)→(∀ w',(Builtin.lenOf x).run P w' = .ok n w')∧∀ w',w'.heap=w.heap→(Builtin.firstCells size n x).run P w' = .ok c w'
 nums:∀ k,xd = .int k→∃ kk q z,x = .int kk q∧0≤q∧q≤2147483647∧n=q.toNat∧0<size∧(∀ w',(zeroValue elem).run P w' = .ok z w')∧c=if n*size=0 then #[] else Builtin.zeroCells z.cells n
section
variable {st xt elem:TypeId} {xd:TypeDesc} {ts:Array TypeId} {ty:TypeId} {args:Array Value} {base:Option Addr} {sLen sCap n size:Nat} {i:TypeInfo} {x:Value} {c:Array Value}
theorem iw(h0:ts[0]? = some st)(h1:ts[1]? = some xt)(a0:args[0]? = some (.slice base sLen sCap))(a1:args[1]? = some x)(hs:P.underlying st=some (.slice elem))(hx:P.underlying xt=some xd)(hi:P.info? elem=some i)
  (hb:i.bytes≤32768) (ha:xo P w elem i.size xd x n c) (hroom:sLen+n≤sCap) {w':World}
  (hst:(match base with | some a=>storeCells (a.add (sLen*i.size)) c.toList | none=>pure ():Sem Unit).run P w = .ok () w') :
  (Builtin.append_ ts ty args).run P w = .ok (.slice base (sLen+n) sCap) w':=by
 have hsize:∀ w',(sizeOf elem).run P w' = .ok i.size w':=fun w'=>bB (by simp [bZ,hi])
 cases xd with
 | int k =>
   obtain ⟨kk,q,z,rfl,q0,q1,rfl,hs0,hz,rfl⟩:=ha.nums k rfl;have hb2:¬ (q*(i.bytes:Int)>2 ^ 48):=by
     have:q*(i.bytes:Int)≤2147483647*32768:=Int.mul_le_mul q1 (by omega) (by omega) (by omega)
     omega
   unfold Builtin.append_;simp only [h0,h1,a0,a1,Sem.run_bind,al hs,al hx,Result.andThen_ok,hsize,Sem.run_pure,if_true,asInt,asIntOf,wrap_small q0 q1,if_neg (show ¬ q<0 by omega),ef hi,if_neg hb2,if_pos hroom]
   cases base with
   | none =>
     simp at hst; subst hst;by_cases h00:q.toNat*i.size=0
     ·simp [h00]
     ·simp [h00,hz]
   | some a =>
     simp only at hst;by_cases h00:q.toNat*i.size=0
     ·rw [if_pos h00] at hst
      simp [h00,hst]
     ·rw [if_neg h00] at hst
      simp [h00,hz,hst]
 | _ =>
   obtain ⟨hn,hc⟩:=ha.other (by simp)
   unfold Builtin.append_;simp only [h0,h1,a0,a1,Sem.run_bind,al hs,al hx,Result.andThen_ok,hsize,Sem.run_pure,Bool.false_eq_true,if_false,hn,hc w rfl,if_pos hroom,Bool.not_false,if_true];cases base with
   | none=>simp at hst; subst hst; simp
   | some a=>simp only at hst; simp [hst]
theorem kf(h0:ts[0]? = some st)(h1:ts[1]? = some xt)(a0:args[0]? = some (.slice base sLen sCap))(a1:args[1]? = some x)(hs:P.underlying st=some (.slice elem))(hx:P.underlying xt=some xd)(hi:P.info? elem=some i)
  (hb:i.bytes≤32768) (ha:xo P w elem i.size xd x n c) (hroom:sCap<sLen+n) (hmax:sLen+n≤2147483647) {old:Array Value} {zv:Value} (hold:∀ w',w'.heap=w.heap→(Builtin.firstCells i.size sLen (.slice base sLen sCap)).run P w' = .ok old w')
  (hz:∀ w',(zeroValue elem).run P w' = .ok zv w') :
  ∃ nc,sLen+n≤nc∧(Builtin.append_ ts ty args).run P w = .ok (.slice (some ⟨w.heap.size,0,none⟩) (sLen+n) nc)
    (w.drew.alloc (.cells (old++c++Builtin.zeroCells zv.cells (nc-(sLen+n))) elem)):=by
 have hsize:∀ w',(sizeOf elem).run P w' = .ok i.size w':=fun w'=>bB (by simp [bZ,hi])
 have hbig:¬ (((sLen+n:Nat):Int)>IntKind.i64.max):=by simp only [IntKind.max,IntKind.signed,IntKind.bits]; simp; omega
 have hcap:¬ (Builtin.nextslicecap (sLen+n) sCap*i.bytes>2 ^ 48):=by
  have h3:=yi hroom hmax
  have:Builtin.nextslicecap (sLen+n) sCap*i.bytes≤4294967296*32768:=Nat.mul_le_mul h3 hb
  omega
 have hforced:(Question.appendCap (sLen+n) sCap elem).forced=false:=rfl
 refine ⟨(Question.appendCap (sLen+n) sCap elem).cut (w.tape w.drawn (.appendCap (sLen+n) sCap elem)),by simp [Question.cut],?_⟩
 generalize hnc:(Question.appendCap (sLen+n) sCap elem).cut (w.tape w.drawn (.appendCap (sLen+n) sCap elem))=nc;cases xd with
 | int k =>
   obtain ⟨kk,q,z,rfl,q0,q1,rfl,hs0,hzz,rfl⟩:=ha.nums k rfl;have hb2:¬ (q*(i.bytes:Int)>2 ^ 48):=by
     have:q*(i.bytes:Int)≤2147483647*32768:=Int.mul_le_mul q1 (by omega) (by omega) (by omega)
     omega
   have hz1:z=zv:=by have h5:=hzz w; rw [hz w] at h5; cases h5; rfl
   subst hz1;unfold Builtin.append_;simp only [h0,h1,a0,a1,Sem.run_bind,al hs,al hx,Result.andThen_ok,hsize,Sem.run_pure,if_true,asInt,asIntOf,wrap_small q0 q1,if_neg (show ¬ q<0 by omega),ef hi,if_neg hb2,if_neg (show ¬ sLen+q.toNat≤sCap by omega)]
   rw [if_neg (by simp only [not_and]; intro h; exact absurd h hbig)]
   simp only [Sem.run_bind,ef hi,Result.andThen_ok,if_neg hcap,run_choose,hforced,Bool.false_eq_true,if_false,hnc,run_askRoom];have hold2:=hold w.drew rfl
   by_cases h00:q.toNat*i.size=0
   ·simp [h00,hold2,hz,newRow]
   ·simp [h00,hold2,hz,newRow]
 | _ =>
   obtain ⟨hn,hc⟩:=ha.other (by simp)
   unfold Builtin.append_;simp only [h0,h1,a0,a1,Sem.run_bind,al hs,al hx,Result.andThen_ok,hsize,Sem.run_pure,Bool.false_eq_true,if_false,hn,if_neg (show ¬ sLen+n≤sCap by omega),ef hi]
   rw [if_neg (by simp only [not_and]; intro h; exact absurd h hbig)]
   simp only [Sem.run_bind,ef hi,Result.andThen_ok,if_neg hcap,run_choose,hforced,Bool.false_eq_true,if_false,hnc,run_askRoom];have hold2:=hold w.drew rfl
   have hc2:=hc w.drew rfl
   simp [hold2,hz,hc2,newRow]
end
end
def tL(h:HG)(sz:Nat):List eF→HG
 | []=>h
 | .put b o::es=>tL (bS h b o) sz es
 | .push o::es=>tL (bS h sz o) (sz+1) es
section
variable {P:Program} {w:World} {m:BM} {h:HG}
def gJ(P:Program)(m:BM)(h:HG)(w:World)(sz:Nat)(es:List eF)(v:Value)(r:Result Value):Prop :=
 ∃ v' w' m',r = .ok v' w'∧dR m h w m' (tL h sz es) w'∧aj m' (tL h sz es) v v'
theorem sI{t:TypeId}{z:List Value}(hz:tzero P t=some z):∃ v,(∀ w,(zeroValue t).run P w = .ok v w)∧cellsL v=z∧z.all AI.flat=true:=by
 unfold tzero at hz;cases hi:P.info? t with
 | none=>simp [hi] at hz
 | some i =>
   simp only [hi,Option.bind_some] at hz;cases hv:i.zero with
   | none=>simp [hv] at hz
   | some v =>
     simp only [hv] at hz;split at hz
     ·rename_i ha; cases hz
      exact ⟨v,fun w=>by simp [zeroValue,ef hi,hv],rfl,ha⟩
     ·cases hz
theorem xD(s:cg m h w){elem:TypeId}{size n:Nat}{zero:List Value}{zv:Value}{xd:TypeDesc}{x x':Value}{ns:List Value}(he:aSrc P h size zero xd x=some (ns,n))(rx:aj m h x x')
  (hz:∀ w,(zeroValue elem).run P w = .ok zv w) (hzc:cellsL zv=zero) (hzf:zero.all AI.flat=true) (hzs:zero.length=size) (h0:0<size) :
  ∃ c,xo P w elem size xd x' n c∧aD m h ns c.toList:=by
 unfold aSrc at he;split at he
 ·rename_i k
  split at he
  ·rename_i kk q
   obtain rfl:=rx.of_int;split at he
   ·rename_i hq
    cases he;have hzz:zv.cells.size=size:=by
      have:zv.cells.toList.length=size:=by rw [bg,hzc]; exact hzs
      simpa using this
    refine ⟨if q.toNat*size=0 then #[] else Builtin.zeroCells zv.cells q.toNat,⟨fun hk=>absurd rfl (hk k),fun k' _=>⟨kk,q,zv,rfl,hq.1,hq.2,rfl,h0,hz,rfl⟩⟩,?_⟩
    have e:(if q.toNat*size=0 then #[] else Builtin.zeroCells zv.cells q.toNat:Array Value).toList=repL zero q.toNat:=by
      by_cases h00:q.toNat*size=0
      ·have:q.toNat=0:=by
          rcases Nat.mul_eq_zero.1 h00 with h1 | h1
          ·exact h1
          ·omega
       simp [this,repL]
      ·rw [if_neg h00,nJ _ _ (by omega),bg,hzc]
    rw [e];exact aD.jc (fI hzf _)
   ·cases he
  ·cases he
 ·rename_i hk
  split at he
  ·cases he
  ·rename_i m' hm
   obtain ⟨ns',hns,e⟩:=Option.map_eq_some_iff.1 he;cases e;obtain ⟨c,h1,h2⟩:=kE (P:=P) s hns rx;exact ⟨c,⟨fun _=>⟨nz hm rx,h1⟩,fun k e=>absurd e (hk k)⟩,h2⟩
theorem A6(s:cg m h w){b off r off' len cap size δ E:Nat}{ty:TypeId}{cs old:List Value}{ro:Bool}(hb:h b=some (.cells ty cs ro))(hm:m b=some (r,δ,E))(ho:eA cs off (len*size)=some old)(h2:off' = δ + off∨cap=0)(hlc:len≤cap) :
  ∃ cc:Array Value,(∀ w',w'.heap=w.heap→(Builtin.firstCells size len (.slice (some ⟨r,off',none⟩) len cap)).run P w' = .ok cc w')∧aD m h old cc.toList:=by
 obtain ⟨c,fr,g1,g2,g3,g4,_⟩:=cg.row (s:=s) hb hm;dsimp only at g1 g2 g3 g4
 obtain ⟨h5,h6,h7⟩:=lk ho (by omega) g4
 by_cases h0:len*size=0
 ·refine ⟨#[],fun w' _=>?_,?_⟩
  ·simp [Builtin.firstCells,loadCells,loadCellsFrom,h0]
  ·have:old = []:=by apply List.eq_nil_of_length_eq_zero; omega
   rw [this]; exact .nil
 ·have hl:0<len:=by
   rcases Nat.eq_zero_or_pos len with h | h
   ·subst h; simp at h0
   ·exact h
  refine ⟨c.extract (δ + off) (δ + off+len*size),fun w' e=>?_,by rw [ext_toList]; exact h5⟩
  simp only [Builtin.firstCells];rcases h2 with rfl | h2
  ·exact run_loadCells (by rw [e]; exact g1) (by rcases h6 with h6 | h6; exact .inl h6; exact .inr (by omega))
  ·omega
theorem ql(s:cg m h w){sz:Nat}(hs:h sz=none){ty:TypeId}{cs:List Value}{c:Array Value}(hc:aD m h cs (c.toList.take cs.length))(hl:cs.length≤c.size) :
  dR m h w (da m sz (w.heap.size,0,c.size)) (bS h sz (.cells ty cs false)) (w.drew.alloc (.cells c ty)):=by
 have s':cg m h w.drew:=s.heap rfl
 have:=zY (o:=.cells ty cs false) (obj:=.cells c ty) (E:=c.size) s' hs (sb (fr:=(0,0)) hc hl (fun j _=>by simp))
 exact this.heap rfl rfl ⟨rfl,fun _=>Nat.le_succ _⟩ rfl
theorem zz(s:cg m h w){b:Nat}{o:af}{x:Nat×Nat×Nat}(hb:h b=some o)(hm:m b=some x):dR m h w m (bS h b .dead) w:=by
 have hl:Le m h m (bS h b .dead):=by
  refine ⟨fun c hc=>?_,fun c y hy=>.inr hy⟩
  by_cases e:c=b
  ·subst e; exact dN
  ·rw [cF e]; exact hc
 have hlive:∀ c,aV (bS h b .dead) c=true→c≠b∧aV h c=true:=by
  intro c hc;by_cases e:c=b
  ·subst e; simp [aV,dN] at hc
  ·exact ⟨e,by unfold aV at hc ⊢; rwa [cF e] at hc⟩
 have hrw:∀ c,rw? (bS h b .dead) c=true→rw? h c=true:=by
  intro c hc;have:=(hlive c (c8 hc)).1
  unfold rw? at hc ⊢; rwa [cF this] at hc
 refine ⟨hl,⟨?_,?_⟩,Nat.le_refl _,fun _ _ hx=>.inl hx,fun _ _ _=>rfl,fun _ _ _ hm=>hm,fun c oc hc hcm=>by
  have e:c≠b:=by intro e; subst e; rw [hm] at hcm; cases hcm
  rw [cF e]; exact hc,?_,fun c y _ hc=>hrw c hc,rfl,⟨rfl,fun _=>Nat.le_refl _⟩,rfl⟩
 ·intro c y hy
  by_cases e:c=b
  ·subst e; exact ⟨.dead,dN,trivial⟩
  ·obtain ⟨oc,hoc,hrc⟩:=s.dom c y hy
   exact ⟨oc,by rw [cF e]; exact hoc,hrc.mono hl rfl⟩
 ·intro c c' y y' hy hy' hrc hlc e
  exact s.inj c c' y y' hy hy' (hrw c hrc) (hlive c' hlc).2 e
 ·intro c oc hoc
  by_cases e:c=b
  ·subst e; exact ⟨.dead,dN⟩
  ·exact ⟨oc,by rw [cF e]; exact hoc⟩
theorem II(s:cg m h w){b sz r δ E δ':Nat}{o o':af}{obj:Obj}(hb:h b=some o)(hr:rw? h b=true)(hm:m b=some (r,δ,E))(hs:h sz=none)
  (hw:∀ m' h',Le m h m' h'→BRel m' h' (jS w r obj) (r,δ',E) o'):dR m h w (da m sz (r,δ',E)) (bS (bS h b .dead) sz o') (jS w r obj):=by
 have hms:m sz=none:=by
  cases e:m sz with
  | none=>rfl
  | some x=>obtain ⟨o,ho,_⟩:=s.dom _ _ e; rw [hs] at ho; cases ho
 have hbs:b≠sz:=by intro e; subst e; rw [hb] at hs; cases hs
 have k:=zz s hb hm
 have hs2:(bS h b .dead) sz=none:=by rw [cF (Ne.symm hbs)]; exact hs
 have l:Le m h (da m sz (r,δ',E)) (bS (bS h b .dead) sz o'):=k.le.trans (Le.push hs2 hms)
 have hget:∀ c,c≠sz→c≠b→(bS (bS h b .dead) sz o') c=h c:=fun c e1 e2=>by rw [cF e1,cF e2]
 have hdead:(bS (bS h b .dead) sz o') b=some .dead:=by rw [cF hbs]; exact dN
 have hlive:∀ c,c≠sz→aV (bS (bS h b .dead) sz o') c=true→c≠b∧aV h c=true:=by
  intro c e hc;by_cases e2:c=b
  ·subst e2; simp [aV,hdead] at hc
  ·exact ⟨e2,by unfold aV at hc ⊢; rwa [hget c e e2] at hc⟩
 have hrwv:∀ c,c≠sz→rw? (bS (bS h b .dead) sz o') c=true→rw? h c=true:=by
  intro c e hc;have e2:=(hlive c e (c8 hc)).1
  unfold rw? at hc ⊢; rwa [hget c e e2] at hc
 have hmn:∀ c y,c≠sz→da m sz (r,δ',E) c=some y→m c=some y:=fun c y e hy=>by simpa [da,e] using hy
 refine ⟨l,⟨?_,?_⟩,by rw [s4]; exact Nat.le_refl _,?_,?_,?_,fun c oc hc hcm=>by
  have e:c≠sz:=by intro e; subst e; rw [hc] at hs; cases hs
  have e2:c≠b:=by intro e; subst e; rw [hm] at hcm; cases hcm
  rw [hget c e e2]; exact hc,?_,?_,rfl,⟨rfl,fun _=>Nat.le_refl _⟩,rfl⟩
 ·intro c y hy
  by_cases e:c=sz
  ·subst e; simp [da] at hy; subst hy
   exact ⟨o',dN,hw _ _ l⟩
  ·have hy':=hmn c y e hy
   by_cases e2:c=b
   ·subst e2; exact ⟨.dead,hdead,trivial⟩
   ·obtain ⟨oc,hoc,hrc⟩:=s.dom c y hy'
    refine ⟨oc,by rw [hget c e e2]; exact hoc,?_⟩
    by_cases hd:oc = .dead
    ·subst hd; trivial
    ·refine hrc.mono l (pT ?_)
     intro exx;refine e2 (s.inj b c (r,δ,E) y hm hy' hr ?_ exx.symm).symm
     unfold aV; rw [hoc]; cases oc <;> simp_all
 ·intro c c' y y' hy hy' hrc hlc e
  by_cases e1:c=sz <;> by_cases e2:c'=sz
  ·rw [e1,e2]
  ·subst e1; simp [da] at hy; subst hy
   have hy2:=hmn c' y' e2 hy'
   obtain ⟨e3,Ob⟩:=hlive c' e2 hlc;exact absurd (s.inj b c' (r,δ,E) y' hm hy2 hr Ob e).symm e3
  ·subst e2; simp [da] at hy'; subst hy'
   have hy2:=hmn c y e1 hy
   obtain ⟨e3,Ob⟩:=hlive c e1 (c8 hrc);exact absurd (s.inj b c (r,δ,E) y hm hy2 hr Ob e.symm).symm e3
  ·exact s.inj c c' y y' (hmn c y e1 hy) (hmn c' y' e2 hy') (hrwv c e1 hrc) (hlive c' e2 hlc).2 e
 ·intro c y hy
  by_cases e:c=sz
  ·subst e; simp [da] at hy; subst hy
   exact .inr (.inr ⟨b,(r,δ,E),hm,hr,rfl⟩)
  ·exact .inl (hmn c y e hy)
 ·intro q hq hh
  exact pT (Ne.symm (hh b _ hm hr))
 ·intro c oc hoc hmc
  have e:c≠sz:=by intro e; subst e; rw [hoc] at hs; cases hs
  unfold da; rw [if_neg e]; exact hmc
 ·intro c oc hoc
  have e:c≠sz:=by intro e; subst e; rw [hoc] at hs; cases hs
  by_cases e2:c=b
  ·subst e2; exact ⟨.dead,hdead⟩
  ·exact ⟨oc,by rw [hget c e e2]; exact hoc⟩
 ·intro c y hy hc
  have e:c≠sz:=by intro e; subst e; rw [hms] at hy; cases hy
  exact hrwv c e hc
theorem rI(s:cg m h w){sz:Nat}{ts:Array TypeId}{ty:TypeId}{xs:List Value}{xs':Array Value}{v:Value}{es:List eF}(hsz:(∃ o,eF.push o∈es)→h sz=none)(he:aAppend P h sz ts.toList xs=some (v,es))(rs:aD m h xs xs'.toList) :
  gJ P m h w sz es v ((Builtin.append_ ts ty xs').run P w):=by
 unfold aAppend at he;split at he
 ·rename_i st xt tr sv x xr hts
  obtain ⟨s',xr',e1,rsv,rs'⟩:=rs.of_cons;obtain ⟨x',xr'',e2,rx,rs''⟩:=rs'.of_cons;subst e2;have h0:ts[0]? = some st:=by
    have:ts.toList[0]? = some st:=by rw [hts]; rfl
    simpa using this
  have h1:ts[1]? = some xt:=by
    have:ts.toList[1]? = some xt:=by rw [hts]; rfl
    simpa using this
  have a0:xs'[0]? = some s':=by
    have:xs'.toList[0]? = some s':=by rw [e1]; rfl
    simpa using this
  have a1:xs'[1]? = some x':=by
    have:xs'.toList[1]? = some x':=by rw [e1]; rfl
    simpa using this
  split at he
  ·rename_i elem xd hs hx
   split at he
   ·cases he
   ·rename_i i hi
    split at he
    ·cases he
    ·rename_i zero hz
     split at he
     ·cases he
     ·rename_i hc
      simp only [not_or,Decidable.not_not,Nat.not_lt] at hc;obtain ⟨hne,hzl,hc2⟩:=hc;have hpos:0<i.size:=Nat.pos_of_ne_zero hne
      obtain ⟨zv,hzv,hzc,hzf⟩:=sI hz;have hzcl:∀ k,(Builtin.zeroCells zv.cells k).toList=repL zero k:=by
        intro k
        rw [nJ _ _ (by have:zv.cells.toList.length=i.size:=by rw [bg,hzc]; exact hzl
                       simp at this; omega),bg,hzc]
      split at he
      ·cases he
      ·rename_i ns mm hsrc
       obtain ⟨c,happ,hcr⟩:=xD s hsrc rx hzv hzc hzf hzl hpos;split at he
       ·cases he
       ·rename_i hns
        simp only [not_or,Bool.not_eq_false,Decidable.not_not] at hns;obtain ⟨hns1,hnsl⟩:=hns;have hcl:c.toList.length=mm*i.size:=by rw [← hcr.1,hnsl]
        have same:∀ (base:Option Addr) (len cap:Nat),s' = .slice base len cap→aj m h sv s'→mm=0→len≤cap→gJ P m h w sz [] sv ((Builtin.append_ ts ty xs').run P w):=by
          intro base len cap e rv h00 hlc;subst h00;have hc0:c.toList = []:=by apply List.eq_nil_of_length_eq_zero; omega
          refine ⟨s',w,m,?_,dR.refl s,rv⟩
          rw [iw (i:=i) (c:=c) (n:=0) (sLen:=len) (sCap:=cap) (base:=base) h0 h1 (by rw [a0,e]) a1 hs hx hi hc2 happ (by omega) (w':=w) (by rw [hc0]; cases base <;> rfl),e]
          rfl
        split at he
        ·obtain rfl:=rsv.of_flat rfl
         split at he
         ·rename_i h00
          cases he;exact same none 0 0 rfl rsv h00 (Nat.le_refl _)
         ·rename_i h00
          split at he
          ·cases he
          ·rename_i hmx
           cases he;have hsz:=hsz (by simp)
           obtain ⟨nc,hnc,hrun⟩:=kf (P:=P) (w:=w) (ty:=ty) (sLen:=0) (sCap:=0) (base:=none) (n:=mm) (c:=c) (old:=#[]) h0 h1 a0 a1 hs hx hi hc2 happ (by omega) (by omega) (fun _ _=>rfl) hzv
           have hl2:ns.length≤(#[]++c++Builtin.zeroCells zv.cells (nc-(0+mm))).size:=by
             have:=hcr.1; simp at this; simp; omega
           have hg:=ql (ty:=elem) (cs:=ns) (c:=#[]++c++Builtin.zeroCells zv.cells (nc-(0+mm))) s hsz (by
             have:(#[]++c++Builtin.zeroCells zv.cells (nc-(0+mm))).toList.take ns.length=c.toList:=by
               rw [hcr.1]; simp
             rw [this]; exact hcr) hl2
           refine ⟨_,_,_,hrun,hg,?_⟩
           rw [Nat.zero_add] at hnc ⊢;refine .slice (.of hnc (by omega)) (.inr ⟨0,_,ew,.inl rfl,fun hh=>by omega,fun _=>?_⟩)
           rw [show (3*i.size+1) / 3=i.size from by omega]
           have hz2:(Builtin.zeroCells zv.cells (nc-mm)).size=(nc-mm)*i.size:=by
             have:=congrArg List.length (hzcl (nc-mm))
             rw [dx,hzl] at this;simpa using this
           have hcs:c.size=mm*i.size:=by simpa using hcl
           simp [hz2,hcs];rw [← Nat.add_mul]; congr 1; omega
        ·rename_i a len cf
         obtain ⟨b,off,r,off',cap,rfl,e3,hlc,hh⟩:=rsv.of_slice;split at he
         ·rename_i h00
          cases he;exact same _ len cap e3 rsv h00 hlc
         ·rename_i h00
          split at he
          ·cases he
          ·rename_i hmx
           split at he
           ·rename_i ty' cs ro hb
            dsimp only at hb he
            split at he
            ·cases he
            ·rename_i old hold
             rcases hh with hh | ⟨δ,E,hm,h2,h3,h4⟩
             ·rw [hb] at hh; cases hh
             ·subst e3
              obtain ⟨cc,hcc,hco⟩:=A6 (P:=P) s hb hm hold h2 hlc;have holdl:old.length=len*i.size:=by
                unfold eA at hold;split at hold
                ·rename_i hq; cases hold; exact hq
                ·cases hold
              have hz2:∀ k,(Builtin.zeroCells zv.cells k).size=k*i.size:=by
                intro k;have:=congrArg List.length (hzcl k)
                rw [dx,hzl] at this;simpa using this
              have hcs:c.size=mm*i.size:=by simpa using hcl
              have hccs:cc.size=len*i.size:=by
                have:=hco.1; simp at this; omega
              have big:∀ nc,len+mm≤nc→aD m h (old++ns) ((cc++c++Builtin.zeroCells zv.cells (nc-(len+mm))).toList.take (old++ns).length) ∧
                  (old++ns).length≤(cc++c++Builtin.zeroCells zv.cells (nc-(len+mm))).size∧(cc++c++Builtin.zeroCells zv.cells (nc-(len+mm))).size=nc*i.size:=by
                intro nc hnc;have e5:(old++ns).length=(cc.toList++c.toList).length:=by simp; omega
                refine ⟨?_,?_,?_⟩
                ·rw [e5,Array.toList_append,Array.toList_append,List.take_left]
                 exact hco.append hcr
                ·simp; omega
                ·simp [hz2,hcs,hccs]
                 rw [← Nat.add_mul,← Nat.add_mul]; congr 1; omega
              split at he
              ·rename_i hcl3
               cases he;have hsz:=hsz (by simp)
               have hce:cap=len+cf / 3 / 1000000:=h3 (by omega)
               obtain ⟨nc,hnc,hrun⟩:=kf (P:=P) (w:=w) (ty:=ty) (n:=mm) (c:=c) (old:=cc) h0 h1 a0 a1 hs hx hi hc2 happ (by omega) (by omega) hcc hzv
               obtain ⟨b1,b2,b3⟩:=big nc hnc;refine ⟨_,_,_,hrun,ql (ty:=elem) s hsz b1 b2,?_⟩
               refine .slice (.of hnc (by omega)) (.inr ⟨0,_,ew,.inl rfl,fun hh=>by omega,fun _=>?_⟩)
               rw [show (3*i.size+1) / 3=i.size from by omega,b3]
               omega
              ·split at he
               ·rename_i hop
                obtain ⟨hop1,hop2,hop3⟩:=hop;subst hop2;subst hop3;have hE : δ + off+cap*i.size=E:=by
                  have:=h4 (by omega)
                  rwa [show cf / 3=i.size from by omega] at this
                obtain ⟨carr,fr,g1,g2,g3,g4,g5⟩:=cg.row (s:=s) hb hm;dsimp only at g1 g2 g3 g4 g5
                have hmul:(len+mm)*i.size=len*i.size+mm*i.size:=Nat.add_mul _ _ _
                have hmm0:0<mm*i.size:=Nat.mul_pos (Nat.pos_of_ne_zero h00) hpos
                split at he
                ·rename_i hfit
                 cases he;have hcap:len+mm≤cap:=by
                   have h6:(len+mm)*i.size≤cap*i.size:=by omega
                   exact Nat.le_of_mul_le_mul_right h6 hpos
                 have hoff:off' = δ + off:=by
                   rcases h2 with h2 | h2
                   ·exact h2
                   ·omega
                 subst hoff;obtain ⟨w',hst,hgo⟩:=gE (P:=P) (off:=off+len*i.size) s hb hm hcr hns1 (by omega)
                 refine ⟨.slice (some ⟨r,δ + off,none⟩) (len+mm) cap,w',m,?_,hgo,?_⟩
                 ·refine iw (i:=i) (c:=c) (n:=mm) h0 h1 a0 a1 hs hx hi hc2 happ hcap ?_
                  simp only [dS];rw [show δ + off+len*i.size = δ + (off+len*i.size) from by omega]
                  exact hst
                 ·exact .slice (.of hcap (by omega)) (.inr ⟨δ,E,hm,.inl rfl,fun hq=>by omega,fun _=>by rw [show cf / 3=i.size from by omega]; exact hE⟩)
                ·rename_i hfit
                 cases he;have hsz:=hsz (by simp)
                 have hbs:b≠sz:=by intro e; subst e; rw [hb] at hsz; cases hsz
                 by_cases hcap:len+mm≤cap
                 ·have hoff:off' = δ + off:=by
                     rcases h2 with h2 | h2
                     ·exact h2
                     ·omega
                  subst hoff;have hroomE:(len+mm)*i.size≤cap*i.size:=Nat.mul_le_mul_right _ hcap
                  have hone:=Et hcr hns1
                  have hst:=ij (P:=P) (r:=r) (off:=δ + off+len*i.size) (ty:=ty') (fr:=fr) c.toList 0 carr w g1 (fun j hj=>g5.1 rfl j (Nat.le_of_lt hj)) (by omega) hone
                  refine ⟨.slice (some ⟨r,δ + off,none⟩) (len+mm) cap,_,da m sz (r,δ + off,E),iw (i:=i) (c:=c) (n:=mm) h0 h1 a0 a1 hs hx hi hc2 happ hcap (by simp only [dS]; exact hst),?_,?_⟩
                  ·refine II (δ':=δ + off) s hb (by simp [rw?,hb]) hm hsz ?_
                   intro m' h' l;refine ⟨_,fr,pS g1,by simp; omega,by simp [cJ]; omega,?_,fun _ j hj=>g5.1 rfl j (by simpa [cJ] using hj),fun h=>by cases h⟩
                   intro j v v' q1 q2;have q2':(putL carr.toList (δ + off+len*i.size+0) c.toList)[δ + off+j]? = some v':=by simpa using q2
                   rw [fU] at q2';by_cases hj:j<old.length
                   ·rw [List.getElem?_append_left hj] at q1
                    rw [if_neg (by omega)] at q2'
                    have hold':=hold
                    unfold eA at hold';split at hold'
                    ·cases hold'
                     rw [List.getElem?_take,if_pos (by omega),List.getElem?_drop] at q1
                     exact (g4 (off+j) v v' q1 (by rw [show δ + (off+j) = δ + off+j from by omega]; simpa using q2')).mono l
                    ·cases hold'
                   ·have hj2:j<(old++ns).length:=(List.getElem?_eq_some_iff.1 q1).1
                    have hj3:j<old.length+ns.length:=by simpa using hj2
                    rw [List.getElem?_append_right (by omega)] at q1
                    rw [if_pos (by simp; omega)] at q2'
                    rw [show δ + off+j-(δ + off+len*i.size+0)=j-old.length from by omega] at q2'
                    exact (hcr.2 _ _ _ q1 q2').mono l
                  ·refine .slice (.of hcap (by omega)) (.inr ⟨δ + off,E,ew,.inl rfl,fun hq=>by omega,fun _=>?_⟩)
                   rw [show (3*i.size+1) / 3=i.size from by omega]
                   omega
                 ·obtain ⟨nc,hnc,hrun⟩:=kf (P:=P) (w:=w) (ty:=ty) (n:=mm) (c:=c) (old:=cc) h0 h1 a0 a1 hs hx hi hc2 happ (by omega) (by omega) hcc hzv
                  obtain ⟨b1,b2,b3⟩:=big nc hnc;have k:=zz s hb hm
                  refine ⟨_,_,_,hrun,k.trans (ql (ty:=ty') k.sim (by rw [cF (Ne.symm hbs)]; exact hsz) (b1.mono k.le) b2),?_⟩
                  refine .slice (.of hnc (by omega)) (.inr ⟨0,_,ew,.inl rfl,fun hh=>by omega,fun _=>?_⟩)
                  rw [show (3*i.size+1) / 3=i.size from by omega,b3]
                  omega
               ·split at he
                ·rename_i hcl3 hnf hop
                 obtain ⟨hop1,hop2,hfit⟩:=hop;subst hop2;cases he;obtain ⟨carr,fr,g1,g2,g3,g4,g5⟩:=cg.row (s:=s) hb hm;dsimp only at g1 g2 g3 g4 g5
                 have hmul:(len+mm)*i.size=len*i.size+mm*i.size:=Nat.add_mul _ _ _
                 have hmm0:0<mm*i.size:=Nat.mul_pos (Nat.pos_of_ne_zero h00) hpos
                 have hsp:mm≤cf / 3 / 1000000:=by
                   rcases Nat.lt_or_ge (cf / 3 / 1000000) mm with h | h
                   ·exact absurd ⟨hop1,h⟩ hcl3
                   ·exact h
                 have hce:cap=len+cf / 3 / 1000000:=h3 hop1
                 have hcap:len+mm≤cap:=by omega
                 have hoff:off' = δ + off:=by
                   rcases h2 with h2 | h2
                   ·exact h2
                   ·omega
                 subst hoff;have hnew:cap=len+mm+3*(cf / 3 % 1000000+1000000*(cf / 3 / 1000000-mm)) / 3 / 1000000:=by
                   rw [Nat.mul_div_cancel_left _ (by omega)]
                   have:cf / 3 % 1000000<1000000:=Nat.mod_lt _ (by omega)
                   rw [Nat.add_mul_div_left _ _ (by omega),Nat.div_eq_of_lt this]
                   omega
                 obtain ⟨w',hst,hgo⟩:=gE (P:=P) (off:=off+len*i.size) s hb hm hcr hns1 (by omega)
                 refine ⟨.slice (some ⟨r,δ + off,none⟩) (len+mm) cap,w',m,?_,hgo,?_⟩
                 ·refine iw (i:=i) (c:=c) (n:=mm) h0 h1 a0 a1 hs hx hi hc2 happ hcap ?_
                  simp only [dS];rw [show δ + off+len*i.size = δ + (off+len*i.size) from by omega]
                  exact hst
                 ·exact .slice ⟨hcap,fun _=>hnew⟩ (.inr ⟨δ,E,hm,.inl rfl,fun _=>hnew,fun hq=>by omega⟩)
                ·cases he
           ·cases he
        ·cases he
  ·cases he
 ·cases he
end
section
variable {P:Program} {w:World} {m:BM} {h:HG}
theorem TB{xs':Array Value}{x:Value}{r:List Value}(rs:aD m h (x::r) xs'.toList):∃ x',xs'[0]? = some x'∧aj m h x x':=by
 obtain ⟨b,bs',e,h1,h2⟩:=rs.of_cons
 exact ⟨b,by have:xs'.toList[0]? = some b:=by rw [e]; rfl
             simpa using this,h1⟩
theorem Pb{xs':Array Value}{x y:Value}{r:List Value}(rs:aD m h (x::y::r) xs'.toList):∃ x' y',xs'[0]? = some x'∧aj m h x x'∧xs'[1]? = some y'∧aj m h y y':=by
 obtain ⟨b,bs',e,h1,h2⟩:=rs.of_cons;obtain ⟨c,cs',e2,h3,h4⟩:=h2.of_cons;subst e2
 exact ⟨b,c,by have:xs'.toList[0]? = some b:=by rw [e]; rfl
               simpa using this,h1,by have:xs'.toList[1]? = some c:=by rw [e]; rfl
                                      simpa using this,h3⟩
theorem NV{ts:Array TypeId}{t:TypeId}{r:List TypeId}(e:ts.toList=t::r):ts[0]? = some t:=by
 have:ts.toList[0]? = some t:=by rw [e]; rfl
 simpa using this
theorem e8(s:cg m h w){sz:Nat}{v v':Value}{r:Result Value}(hr:r = .ok v' w)(rv:aj m h v v'):gJ P m h w sz [] v r :=
 ⟨v',w,m,hr,dR.refl s,rv⟩
theorem ir{sz b:Nat}{o:af}{w':World}{v v':Value}{r:Result Value}(hr:r = .ok v' w')(g:dR m h w m (bS h b o) w')(rv:aj m (bS h b o) v v'):gJ P m h w sz [.put b o] v r :=
 ⟨v',w',m,hr,g,rv⟩
theorem uZ(s:cg m h w){sz:Nat}{ts:Array TypeId}{ty:TypeId}{xs:List Value}{xs':Array Value}{v:Value}{es:List eF}(he:aCopy P h ts.toList xs=some (v,es))(rs:aD m h xs xs'.toList) :
  gJ P m h w sz es v ((Builtin.copy_ ts ty xs').run P w):=by
 unfold aCopy at he;split at he
 ·rename_i dt tr d x xr hts
  have h0:=NV hts
  obtain ⟨d',x',a0,rd,a1,rx⟩:=Pb rs;split at he
  ·rename_i elem hd
   split at he
   ·rename_i size d0 dm base dlen c mm hsz hsl
    have hlen:=fun w'=>nz (P:=P) hsl rx w'
    split at he
    ·cases he
    ·rename_i ns hns
     obtain ⟨cc,hcc,hcr⟩:=kE (P:=P) s hns rx;split at he
     ·cases he
     ·rename_i hc
      simp only [Bool.or_eq_true,Bool.not_eq_true',decide_eq_true_eq,not_or,Bool.not_eq_false,Decidable.not_not,bne_iff_ne,ne_eq,decide_not,decide_eq_false_iff_not] at hc;obtain ⟨hc1,hc2⟩:=hc;have hrun:∀ (b':Option Addr) (cap:Nat) (w':World),d' = .slice b' dlen cap →
          (match b' with | some a=>storeCells a cc.toList | none=>pure ():Sem Unit).run P w = .ok () w'→(Builtin.copy_ ts ty xs').run P w = .ok (goInt (min mm dlen:Nat)) w':=by
        intro b' cap w' e hst;have hmin:Nat.min mm dlen=min mm dlen:=rfl
        unfold Builtin.copy_;simp only [h0,a0,a1,Sem.run_bind,al hd,Result.andThen_ok,e,hlen,bB hsz,hcc w rfl,hmin];cases b' with
        | none=>simp at hst; subst hst; simp
        | some a=>simp only at hst; simp [hst]
      split at he
      ·obtain ⟨rfl,rfl,rfl⟩:=rd.dY
       split at he
       ·rename_i hz
        cases he;refine e8 s (hrun none 0 w rfl rfl) ?_
        rw [hz]; exact .flat rfl
       ·cases he
      ·rename_i a
       obtain ⟨b,off,r,off',cap,rfl,rfl,hlc,hh⟩:=rd.of_slice;split at he
       ·rename_i hz
        cases he;refine e8 s (hrun _ cap w rfl ?_) (by rw [hz]; exact .flat rfl)
        have:cc.toList = []:=by apply List.eq_nil_of_length_eq_zero; rw [← hcr.1,hc2,hz,Nat.zero_mul]
        simp only [this,storeCells,Sem.run_pure]
       ·rename_i hz
        split at he
        ·rename_i ty' cs hb
         dsimp only at hb he
         split at he
         ·rename_i hfit
          cases he;rcases hh with hh | ⟨δ,E,hm,h2,_⟩
          ·rw [hb] at hh; cases hh
          ·have hoff:off' = δ + off:=by
              rcases h2 with h2 | h2
              ·exact h2
              ·omega
           subst hoff;obtain ⟨w',hst,hgo⟩:=gE (P:=P) (off:=off) s hb hm hcr hc1 hfit;exact ir (hrun _ cap w' rfl hst) hgo (.flat rfl)
         ·cases he
        ·cases he
   ·cases he
  ·cases he
 ·cases he
theorem ti(s:cg m h w){sz:Nat}{ts:Array TypeId}{ty:TypeId}{xs:List Value}{xs':Array Value}{v:Value}{es:List eF}(he:aClear P h ts.toList xs=some (v,es))(rs:aD m h xs xs'.toList) :
  gJ P m h w sz es v ((Builtin.clear_ ts ty xs').run P w):=by
 unfold aClear at he;split at he
 ·rename_i t tr x xr hts
  have h0:=NV hts
  obtain ⟨x',a0,rx⟩:=TB rs;split at he
  ·rename_i elem hu
   cases he;obtain rfl:=rx.of_flat rfl;refine e8 s ?_ aj.undef
   simp only [Builtin.clear_,h0,a0,Sem.run_bind,al hu,Result.andThen_ok,Sem.run_pure];rfl
  ·rename_i elem a len c hu
   obtain ⟨b,off,r,off',cap,rfl,rfl,hlc,hh⟩:=rx.of_slice;split at he
   ·rename_i hz
    cases he;subst hz;refine e8 s ?_ aj.undef
    simp only [Builtin.clear_,h0,a0,Sem.run_bind,al hu,Result.andThen_ok,Sem.run_pure];rfl
   ·rename_i hz
    split at he
    ·rename_i zero ty' cs hzt hb
     dsimp only at hb he
     split at he
     ·rename_i hfit
      cases he;rcases hh with hh | ⟨δ,E,hm,h2,_⟩
      ·rw [hb] at hh; cases hh
      ·have hoff:off' = δ + off:=by
          rcases h2 with h2 | h2
          ·exact h2
          ·omega
       subst hoff;obtain ⟨zv,hzv,hzc,hzf⟩:=sI (P:=P) hzt;have hcz:aD m h (repL zero len) (Builtin.zeroCells zv.cells len).toList:=by
         have:(Builtin.zeroCells zv.cells len).toList=repL zero len:=by
           unfold Builtin.zeroCells;by_cases h00:0<zv.cells.size
           ·rw [range_zero _ _ (.inr h00),bg,hzc]
           ·have e0:zv.cells.size=0:=by omega
            rw [range_zero _ _ (.inl (by rw [e0,Nat.mul_zero])),bg,hzc]
         rw [this]; exact aD.jc (fI hzf _)
       have hones:(repL zero len).all isOne=true:=by
         have h3:=fI hzf len
         rw [List.all_eq_true] at h3 ⊢;intro q hq;have:=h3 q hq
         cases q <;> first | rfl | (simp [AI.flat] at this)
       obtain ⟨w',hst,hgo⟩:=gE (P:=P) (off:=off) s hb hm hcz hones hfit;refine ir (v':=.tuple #[]) ?_ hgo aj.undef
       obtain ⟨n,rfl⟩:∃ n,len=n+1:=⟨len-1,by omega⟩
       simp only [Builtin.clear_,h0,a0,Sem.run_bind,al hu,Result.andThen_ok,hzv,hst,Sem.run_pure]
     ·cases he
    ·cases he
  ·cases he
 ·cases he
theorem wR:∀ (es:List (Value×Value×Nat)) (i:Nat) (x:Value×Value×Nat),setE es i x=es.set i x
 | [],_,_=>rfl
 | _::_,0,_=>rfl
 | e::es,i+1,x=>by simp [setE,wR es i x]
theorem oH:∀ (es:List (Value×Value×Nat)) (i:Nat),dropE es i=es.eraseIdx i
 | [],_=>rfl
 | _::_,0=>rfl
 | e::es,i+1=>by simp [dropE,oH es i]
theorem iV:∀ (es:List (Value×Value×Nat)) (i:Nat) (e:Value×Value×Nat),es[i]? = some e→mI es i=e.2.2
 | [],_,_,he=>by simp at he
 | _::_,0,_,he=>by simp at he; subst he; rfl
 | _::es,i+1,e,he=>by simpa [mI] using iV es i e (by simpa using he)
theorem jl.set{es:List (Value×Value×Nat)}{fs:Array MapEntry}(r:jl m h es fs){i:Nat}{x:Value×Value×Nat}{f:MapEntry→MapEntry}
  (hx:∀ e g,es[i]? = some e→fs[i]? = some g→AI.flat x.1=true∧(f g).key=x.1∧aj m h x.2.1 (f g).val∧(f g).born=x.2.2):jl m h (setE es i x) (fs.modify i f):=by
 rw [wR];refine ⟨by simp [r.1],fun j e g h1 h2=>?_⟩
 rw [Array.getElem?_modify] at h2
 by_cases hij:i=j
 ·subst hij
  simp only [if_true,Option.map_eq_some_iff] at h2;obtain ⟨g0,xX,rfl⟩:=h2;have hi:i<es.length:=by
    rcases Nat.lt_or_ge i es.length with q | q
    ·exact q
    ·rw [List.getElem?_eq_none (by simpa using q)] at h1; cases h1
  rw [List.getElem?_set_self hi] at h1
  cases h1;exact hx es[i] g0 (List.getElem?_eq_getElem hi) xX
 ·rw [if_neg hij] at h2
  rw [List.getElem?_set_ne hij] at h1
  exact r.2 j e g h1 h2
theorem jl.push{es:List (Value×Value×Nat)}{fs:Array MapEntry}(r:jl m h es fs){x:Value×Value×Nat}{f:MapEntry}
  (hx:AI.flat x.1=true∧f.key=x.1∧aj m h x.2.1 f.val∧f.born=x.2.2):jl m h (es ++ [x]) (fs.push f):=by
 refine ⟨by simp [r.1],fun j e g h1 h2=>?_⟩
 rw [Array.getElem?_push] at h2
 by_cases hj:j=fs.size
 ·subst hj
  rw [if_pos rfl] at h2;cases h2;rw [← r.1] at h1;simp at h1;subst h1;exact hx
 ·rw [if_neg hj] at h2
  have hlt:j<fs.size:=(Array.getElem?_eq_some_iff.1 h2).1
  rw [List.getElem?_append_left (by rw [r.1]; exact hlt)] at h1
  exact r.2 j e g h1 h2
theorem jl.drop{es:List (Value×Value×Nat)}{fs:Array MapEntry}(r:jl m h es fs)(i:Nat)(hi:i<es.length):jl m h (dropE es i) (fs.eraseIdxIfInBounds i):=by
 rw [oH];have hi':i<fs.size:=by rw [← r.1]; exact hi
 have e:(fs.eraseIdxIfInBounds i).toList=fs.toList.eraseIdx i:=by
  unfold Array.eraseIdxIfInBounds;rw [dif_pos hi',Array.toList_eraseIdx]
 refine ⟨?_,fun j x g h1 h2=>?_⟩
 ·have:=congrArg List.length e
  rw [Array.length_toList] at this;rw [this,List.length_eraseIdx_of_lt hi,List.length_eraseIdx_of_lt (by simpa using hi')]
  have:=r.1
  simp only [Array.length_toList]; omega
 ·have h2':(fs.eraseIdxIfInBounds i).toList[j]? = some g:=by rw [Array.getElem?_toList]; exact h2
  rw [e,List.getElem?_eraseIdx] at h2'
  rw [List.getElem?_eraseIdx] at h1
  split at h1
  ·rename_i hj; rw [if_pos hj] at h2'; exact r.2 j x g h1 (by simpa using h2')
  ·rename_i hj; rw [if_neg hj] at h2'; exact r.2 (j+1) x g h1 (by simpa using h2')
theorem jl.mono{m':BM}{h':HG}(l:Le m h m' h'){es:List (Value×Value×Nat)}{fs:Array MapEntry}(r:jl m h es fs):jl m' h' es fs :=
 ⟨r.1,fun i e f h1 h2=>by
  obtain ⟨a,b,c,d⟩:=r.2 i e f h1 h2;exact ⟨a,b,c.mono l,d⟩⟩
theorem lj(s:cg m h w){b r:Nat}{y:Nat×Nat}{es es':List (Value×Value×Nat)}{cl cl':Nat}{fs':Array MapEntry}(hb:h b=some (.map es cl false))(hm:m b=some (r,y))
  (hr:jl m (bS h b (.map es' cl' false)) es' fs') :
  dR m h w m (bS h b (.map es' cl' false)) (jS w r (.map fs' cl')):=by
 obtain ⟨fs,h1,h2⟩:=s.maps hb hm;exact EG (x:=(r,y)) s hb hm (by simp [rw?,hb]) (by simp [rw?,dN]) ⟨fs',pS h1,hr⟩
theorem eP{r:Nat}{fs fs':Array MapEntry}{cl cl':Nat}(hf:w.heap[r]? = some (.map fs cl)):(setObj r (.map fs' cl')).run P w = .ok () (jS w r (.map fs' cl')):=by
 simp [setObj,Sem.run,hf]; rfl
theorem mX{d:TypeDesc}{a b:Value}(hk:keyEq d a b=some true):a=b∧AI.flat a=true:=by
 unfold keyEq at hk;split at hk
 ·split at hk
  ·rename_i e; subst e; simp at hk; subst hk; exact ⟨rfl,rfl⟩
  ·cases hk
 ·rename_i a b
  have e:a=b:=by
    simp [iG] at hk;cases a; cases b; simp_all
  subst e; exact ⟨rfl,rfl⟩
 ·simp at hk; subst hk; exact ⟨rfl,rfl⟩
 ·cases hk
theorem nr{d:TypeDesc}{k e:Value}(hk:keyEq d k e=some true)(w':World):(Instr.keyThatStays e k).run P w' = .ok k w':=by
 have he:=(mX hk).1
 subst he;unfold keyEq at hk;have:Instr.sameBits 10000 k k=true:=by
  split at hk
  ·simp [Instr.sameBits]
  ·rw [Instr.sameBits,← oh]; simp [iG]
  ·simp [Instr.sameBits]
  ·cases hk
 simp [Instr.keyThatStays,this]
theorem nT{d:TypeDesc}{k v:Value}{es:List (Value×Value×Nat)}{fs:Array MapEntry}{i:Nat}(r:jl m h es fs)(hf:findE d k es 0=some (some (i,v))) :
  ∃ e f,es[i]? = some e∧fs[i]? = some f∧keyEq d k e.1=some true∧v=e.2.1∧f.key=e.1∧aj m h v f.val∧f.born=e.2.2∧Instr.findNow d k fs.toList 0=some (some (i,f.val)):=by
 obtain ⟨v',g1,g2,g3,g4,e,g5,g6,g7⟩:=fE hf r.list.1 r.list.2;rw [Nat.sub_zero] at g5;have hi:i<fs.size:=by rw [← r.1]; omega
 obtain ⟨q1,q2,q3,q4⟩:=r.2 i e fs[i] g5 (Array.getElem?_eq_getElem hi)
 refine ⟨e,fs[i],g5,Array.getElem?_eq_getElem hi,g7,g6,q2,by rw [g6]; exact q3,q4,?_⟩
 rw [g1];congr 2
 have hv:fs[i].val=v':=by
  have:=findNow_val g1
  rw [Nat.sub_zero,Array.getElem?_toList,Array.getElem?_eq_getElem hi] at this
  simpa using this
 rw [hv]
where
 findNow_val:∀ {d:TypeDesc} {k:Value} {fs:List MapEntry} {j i:Nat} {v:Value},Instr.findNow d k fs j=some (some (i,v))→(fs[i-j]?).map (·.val)=some v:=by
  intro d k fs;induction fs with
  | nil=>intro j i v hh; simp [Instr.findNow] at hh
  | cons f fs ih =>
    intro j i v hh;simp only [Instr.findNow] at hh;split at hh
    ·cases hh; simp
    ·have h5:=ih hh
     have hle:j+1≤i:=by
       rcases Nat.lt_or_ge i (j+1) with q | q
       ·exfalso
        have:∀ {fs:List MapEntry} {j i:Nat} {v:Value},Instr.findNow d k fs j=some (some (i,v))→j≤i:=by
          intro fs;induction fs with
          | nil=>intro j i v hh; simp [Instr.findNow] at hh
          | cons f fs ih2 =>
            intro j i v hh;simp only [Instr.findNow] at hh;split at hh
            ·cases hh; exact Nat.le_refl _
            ·have:=ih2 hh; omega
            ·cases hh
        have:=this hh
        omega
       ·exact q
     rw [show i-j=(i-(j+1))+1 from by omega]
     simpa using h5
    ·cases hh
theorem lK(s:cg m h w){t:TypeId}{x k v x' k' v':Value}{es:List eF}(he:aUpdate P h t x k v=some es)(rx:aj m h x x')(rk:aj m h k k')(rv:aj m h v v') :
  ∃ b o w',es = [.put b o]∧(Instr.mapUpdate t x' k' v').run P w = .ok () w'∧dR m h w m (bS h b o) w':=by
 unfold aUpdate at he;split at he
 ·rename_i key elem b hu
  obtain ⟨r,rfl,hh⟩:=rx.of_map;split at he
  ·rename_i d es0 clock hk hb
   obtain ⟨hku,hck⟩:=eC hk;rcases hh with hh | ⟨y,hm⟩
   ·rw [hb] at hh; cases hh
   ·obtain ⟨fs,h1,h2⟩:=s.maps hb hm
    split at he
    ·cases he
    ·rename_i i u hf
     cases he;obtain ⟨e,f,g1,g2,g3,g4,g5,g6,g7,g8⟩:=nT h2 hf;obtain ⟨hke,hkf⟩:=mX g3;obtain rfl:=rk.of_flat hkf;refine ⟨_,_,_,rfl,?_,lj (fs':=fs.modify i fun e=>{ e with key:=k',val:=v' }) s hb hm ?_⟩
     ·simp only [Instr.mapUpdate,Sem.run_bind,al hu,Result.andThen_ok,c9 h1,hck,run_findKey hku g8,g2,Option.map_some,Option.getD_some,g5,nr g3,eP h1]
     ·refine (h2.mono (jy hb (by simp))).set fun e' g' q1 q2=>⟨hkf,rfl,rv.mono (jy hb (by simp)),?_⟩
      rw [g1] at q1; cases q1;rw [g2] at q2; cases q2;rw [iV _ _ _ g1]; exact g7
    ·rename_i hf
     split at he
     ·rename_i hkf
      cases he;obtain rfl:=rk.of_flat hkf;have g1:=fE hf h2.list.1 h2.list.2
      refine ⟨_,_,_,rfl,?_,lj (fs':=fs.push { key:=k',val:=v',born:=clock }) s hb hm ?_⟩
      ·simp only [Instr.mapUpdate,Sem.run_bind,al hu,Result.andThen_ok,c9 h1,hck,run_findKey hku g1,eP h1]
      ·exact (h2.mono (jy hb (by simp))).push ⟨hkf,rfl,rv.mono (jy hb (by simp)),rfl⟩
     ·cases he
  ·cases he
 ·cases he
theorem wE{a b a' b':Value}(r1:aj m h a a')(r2:aj m h b b'):aj m h (.tuple #[a,b]) (.tuple #[a',b']) :=
 .tuple rfl (aD.toArray (asv:=[a,b]) (bs:=[a',b']) (.cons r1 (.cons r2 .nil))).2
theorem tk(s:cg m h w){sz:Nat}{t:TypeId}{x k x' k' v:Value}{es:List eF}(he:nK P h t x k=some (v,es))(rx:aj m h x x')(rk:aj m h k k') :
  gJ P m h w sz es v ((Instr.mapEntry t x' k').run P w):=by
 unfold nK at he;split at he
 ·rename_i key elem b hu
  obtain ⟨r,rfl,hh⟩:=rx.of_map;split at he
  ·rename_i d es0 clock hk hb
   obtain ⟨hku,hck⟩:=eC hk;rcases hh with hh | ⟨y,hm⟩
   ·rw [hb] at hh; cases hh
   ·obtain ⟨fs,h1,h2⟩:=s.maps hb hm
    split at he
    ·cases he
    ·rename_i i u hf
     cases he;obtain ⟨e,f,g1,g2,g3,g4,g5,g6,g7,g8⟩:=nT h2 hf;obtain ⟨hke,hkf⟩:=mX g3;obtain rfl:=rk.of_flat hkf;have hle:=jy (m:=m) (o':=.map (setE es0 i (k',u,mI es0 i)) clock false) hb (by simp)
     refine ir ?_ (lj (fs':=fs.modify i fun e=>{ e with key:=k' }) s hb hm ?_) (wE (g6.mono hle) (b':=goInt f.born) ?_)
     ·simp only [Instr.mapEntry,Sem.run_bind,al hu,Result.andThen_ok,c9 h1,hck,run_findKey hku g8,g2,Option.map_some,Option.getD_some,g5,nr g3,eP h1,Sem.run_pure]
     ·refine (h2.mono hle).set fun e' g' q1 q2=>?_
      rw [g1] at q1; cases q1;rw [g2] at q2; cases q2;exact ⟨hkf,rfl,g6.mono hle,by rw [iV _ _ _ g1]; exact g7⟩
     ·rw [iV _ _ _ g1,g7]; exact .flat rfl
    ·rename_i hf
     split at he
     ·rename_i z hz
      split at he
      ·rename_i hp
       cases he;simp only [Bool.and_eq_true] at hp;obtain rfl:=rk.of_flat hp.1;have g1:=fE hf h2.list.1 h2.list.2
       have hzz:aj m h z z:=aj.plain hp.2
       have hle:=jy (m:=m) (o':=.map (es0 ++ [(k',z,clock)]) (clock+1) false) hb (by simp)
       refine ir ?_ (lj (fs':=fs.push { key:=k',val:=z,born:=clock }) s hb hm ?_) (wE (hzz.mono hle) (b':=goInt clock) (.flat rfl))
       ·simp only [Instr.mapEntry,Sem.run_bind,al hu,Result.andThen_ok,c9 h1,hck,run_findKey hku g1,sH hz,eP h1,Sem.run_pure]
       ·exact (h2.mono hle).push ⟨hp.1,rfl,hzz.mono hle,rfl⟩
      ·cases he
     ·cases he
  ·cases he
 ·cases he
theorem oV{b:Int}:∀ {es:List (Value×Value×Nat)} {fs:List MapEntry} {i j:Nat} {k:Value},qW b es i=some (j,k)→es.length=fs.length →
  (∀ (i:Nat) (e:Value×Value×Nat) (f:MapEntry),es[i]? = some e→fs[i]? = some f→AI.flat e.1=true∧f.key=e.1∧aj m h e.2.1 f.val∧f.born=e.2.2) →
  ∃ j',j=i+j'∧fs.findIdx? (fun e=>(e.born:Int)==b)=some j'∧∃ e,es[j']? = some e∧k=e.1
 | [],fs,i,j,k,he,hl,hr=>by simp [qW] at he
 | e::es,[],i,j,k,he,hl,hr=>by simp at hl
 | e::es,f::fs,i,j,k,he,hl,hr=>by
   obtain ⟨h1,h2,h3,h4⟩:=hr 0 e f rfl rfl;simp only [qW] at he;split at he
   ·rename_i hq
    cases he;refine ⟨0,rfl,?_,e,rfl,rfl⟩
    simp only [List.findIdx?_cons,h4,hq,if_true]
   ·rename_i hq
    obtain ⟨j',g1,g2,e',g3,g4⟩:=oV he (by simpa using hl) (fun i e f a b=>hr (i+1) e f (by simpa using a) (by simpa using b))
    refine ⟨j'+1,by omega,?_,e',by simpa using g3,g4⟩
    simp only [List.findIdx?_cons,h4]
    simp only [hq,g2];rfl
theorem mD(s:cg m h w){t:TypeId}{x k v x' k' v':Value}{es:List eF}(he:aEntryStore h x k v=some es)(rx:aj m h x x')(rk:aj m h k k')(rv:aj m h v v') :
  ∃ b o w',es = [.put b o]∧(Instr.entryStore t x' k' v').run P w = .ok () w'∧dR m h w m (bS h b o) w':=by
 unfold aEntryStore at he;split at he
 ·rename_i b kd st
  obtain ⟨r,rfl,hh⟩:=rx.of_map;obtain rfl:=rk.of_int;split at he
  ·rename_i es0 clock hb
   rcases hh with hh | ⟨y,hm⟩
   ·rw [hb] at hh; cases hh
   ·obtain ⟨fs,h1,h2⟩:=s.maps hb hm
    split at he
    ·rename_i i key hst
     cases he;obtain ⟨j',g1,g2,e,g3,g4⟩:=oV hst h2.list.1 h2.list.2;rw [Nat.zero_add] at g1; subst g1;refine ⟨_,_,_,rfl,?_,lj (fs':=fs.modify i fun e=>{ e with val:=v' }) s hb hm ?_⟩
     ·have g2':fs.findIdx? (fun e=>(e.born:Int)==st)=some i:=by
         rw [← g2];cases fs; simp
      simp only [Instr.entryStore,Sem.run_bind,Sem.run_pure,c9 h1,Result.andThen_ok,asInt,asIntOf,g2',eP h1]
     ·have hle:=jy (m:=m) (o':=.map (setE es0 i (key,v,mI es0 i)) clock false) hb (by simp)
      refine (h2.mono hle).set fun e' g' q1 q2=>?_
      obtain ⟨p1,p2,p3,p4⟩:=h2.2 i e' g' q1 q2;rw [g3] at q1; cases q1;subst g4;exact ⟨p1,p2,rv.mono hle,by rw [iV _ _ _ g3]; exact p4⟩
    ·cases he
  ·cases he
 ·cases he
theorem rJ(s:cg m h w){sz:Nat}{ts:Array TypeId}{ty:TypeId}{xs:List Value}{xs':Array Value}{v:Value}{es:List eF}(he:aDelete P h ts.toList xs=some (v,es))(rs:aD m h xs xs'.toList) :
  gJ P m h w sz es v ((Builtin.delete_ ts ty xs').run P w):=by
 unfold aDelete at he;split at he
 ·rename_i t tr x k xr hts
  have h0:=NV hts
  obtain ⟨x',k',a0,rx,a1,rk⟩:=Pb rs;split at he
  ·rename_i key elem hu
   split at he
   ·rename_i d hk
    split at he
    ·rename_i hkf
     cases he;obtain ⟨hku,hck⟩:=eC hk;obtain rfl:=rx.of_flat rfl;refine e8 s ?_ aj.undef
     simp only [Builtin.delete_,h0,a0,a1,Sem.run_bind,al hu,Result.andThen_ok,hck,Sem.run_pure];rfl
    ·cases he
   ·rename_i d b hk
    obtain ⟨hku,hck⟩:=eC hk;obtain ⟨r,rfl,hh⟩:=rx.of_map;split at he
    ·rename_i es0 clock hb
     rcases hh with hh | ⟨y,hm⟩
     ·rw [hb] at hh; cases hh
     ·obtain ⟨fs,h1,h2⟩:=s.maps hb hm
      split at he
      ·cases he
      ·rename_i i u hf
       cases he;obtain ⟨e,f,g1,g2,g3,g4,g5,g6,g7,g8⟩:=nT h2 hf;obtain ⟨hke,hkf⟩:=mX g3;obtain rfl:=rk.of_flat hkf;refine ir (v':=.tuple #[]) ?_ (lj (fs':=fs.eraseIdxIfInBounds i) s hb hm ?_) aj.undef
       ·simp only [Builtin.delete_,h0,a0,a1,Sem.run_bind,al hu,Result.andThen_ok,c9 h1,hck,run_findKey hku g8,eP h1,Sem.run_pure]
       ·exact (h2.mono (jy hb (by simp))).drop i (List.getElem?_eq_some_iff.1 g1).1
      ·rename_i hf
       split at he
       ·rename_i hkf
        cases he;obtain rfl:=rk.of_flat hkf;have g1:=fE hf h2.list.1 h2.list.2
        refine e8 s ?_ aj.undef
        simp only [Builtin.delete_,h0,a0,a1,Sem.run_bind,al hu,Result.andThen_ok,c9 h1,hck,run_findKey hku g1,eP h1,Sem.run_pure,sZ h1];rfl
       ·cases he
    ·cases he
   ·cases he
  ·cases he
 ·cases he
theorem j9(s:cg m h w){sz:Nat}{src dst:TypeId}{x x' v:Value}{es:List eF}(hsz:(∃ o,eF.push o∈es)→h sz=none)(he:gK P sz src dst x=some (v,es))(rx:aj m h x x') :
  gJ P m h w sz es v ((convert src dst x').run P w):=by
 cases he
def te(P:Program)(m:BM)(h:HG)(w:World)(sz:Nat)(es:List eF)(v:Value)(r:Result Next):Prop :=
 ∃ w' m',dR m h w m' (tL h sz es) w'∧((∃ v',r = .ok (.value v') w'∧aj m' (tL h sz es) v v')∨(r = .ok .skip w'∧v=undef))
theorem gJ.next{sz:Nat}{es:List eF}{v:Value}{s:Sem Value}(hl:gJ P m h w sz es v (s.run P w)):te P m h w sz es v ((do pure (.value (← s)):Sem Next).run P w):=by
 obtain ⟨v',w',m',h1,h2,h3⟩:=hl;exact ⟨w',m',h2,.inl ⟨v',by simp [h1],h3⟩⟩
theorem lz{sz b:Nat}{o:af}{w':World}{s:Sem Unit}(h1:s.run P w = .ok () w')(h2:dR m h w m (bS h b o) w'):te P m h w sz [.put b o] undef ((do s; pure .skip:Sem Next).run P w) :=
 ⟨w',m,h2,.inr ⟨by simp [h1],rfl⟩⟩
theorem A4(s:cg m h w){ρ ρ':Operand→Value}{o:Oper}{sz:Nat}{v:Value}{es:List eF}(hsz:(∃ o,eF.push o∈es)→h sz=none)(he:opB P ρ sz h o=some (v,es))(hr:∀ x∈o.op.operands.toList,aj m h (ρ x) (ρ' x)) :
  te P m h w sz es v ((execOp ρ' o).run P w):=by
 obtain ⟨dst,op,type,pos,after,guard⟩:=o;unfold opB at he;simp only at he hr;split at he
 ·rename_i t a x
  obtain ⟨z,hz,hvo⟩:=Option.map_eq_some_iff.1 he;cases hvo;obtain ⟨b,o,w',rfl,h1,h2⟩:=tz (P:=P) s hz (hr a (by simp [Op.operands])) (hr x (by simp [Op.operands]))
  exact lz (s:=Instr.storeAt t (ρ' a) (ρ' x)) h1 h2
 ·rename_i t a k x
  obtain ⟨z,hz,hvo⟩:=Option.map_eq_some_iff.1 he;cases hvo;obtain ⟨b,o,w',rfl,h1,h2⟩:=lK (P:=P) s hz (hr a (by simp [Op.operands])) (hr k (by simp [Op.operands])) (hr x (by simp [Op.operands]))
  exact lz (s:=Instr.mapUpdate t (ρ' a) (ρ' k) (ρ' x)) h1 h2
 ·rename_i t a k x
  obtain ⟨z,hz,hvo⟩:=Option.map_eq_some_iff.1 he;cases hvo;obtain ⟨b,o,w',rfl,h1,h2⟩:=lK (P:=P) s hz (hr a (by simp [Op.operands])) (hr k (by simp [Op.operands])) (hr x (by simp [Op.operands]))
  exact lz (s:=Instr.mapUpdate t (ρ' a) (ρ' k) (ρ' x)) h1 h2
 ·rename_i t a k
  exact (tk (P:=P) s he (hr a (by simp [Op.operands])) (hr k (by simp [Op.operands]))).next
 ·rename_i t a k x
  obtain ⟨z,hz,hvo⟩:=Option.map_eq_some_iff.1 he;cases hvo;obtain ⟨b,o,w',rfl,h1,h2⟩:=mD (P:=P) (t:=t) s hz (hr a (by simp [Op.operands])) (hr k (by simp [Op.operands])) (hr x (by simp [Op.operands]))
  exact lz (s:=Instr.entryStore t (ρ' a) (ρ' k) (ρ' x)) h1 h2
 ·rename_i src dst x
  exact (j9 (P:=P) s hsz he (hr x (by simp [Op.operands]))).next
 ·rename_i c
  have hargs:∀ b,c.callee = .builtin b→aD m h (c.args.toList.map ρ) (c.args.map ρ').toList:=by
    intro b hcal;rw [Array.toList_map];exact aD.map fun x hx=>hr x (by simp only [Op.operands,Call.operands,hcal,Array.toList_append,List.mem_append]; exact .inr hx)
  split at he
  ·rename_i hcal
   have:=(rI (P:=P) (ty:=type) s hsz he (hargs _ hcal)).next
   simp only [execOp,resolve,hcal,Sem.run_bind,Sem.run_pure,Result.andThen_ok,invoke,builtin];simpa using this
  ·rename_i hcal
   have:=(uZ (P:=P) (sz:=sz) (ty:=type) s he (hargs _ hcal)).next
   simp only [execOp,resolve,hcal,Sem.run_bind,Sem.run_pure,Result.andThen_ok,invoke,builtin];simpa using this
  ·rename_i hcal
   have:=(ti (P:=P) (sz:=sz) (ty:=type) s he (hargs _ hcal)).next
   simp only [execOp,resolve,hcal,Sem.run_bind,Sem.run_pure,Result.andThen_ok,invoke,builtin];simpa using this
  ·rename_i hcal
   have:=(rJ (P:=P) (sz:=sz) (ty:=type) s he (hargs _ hcal)).next
   simp only [execOp,resolve,hcal,Sem.run_bind,Sem.run_pure,Result.andThen_ok,invoke,builtin];simpa using this
  ·cases he
 ·cases he
end
def Sub(g g':HG):Prop:=∀ b o,g b=some o→g' b=some o
def mv(g:HG)(es:List eF):Prop:=∀ b o,eF.put b o∈es→∃ o',g b=some o'
section
variable {P:Program} {g g':HG}
theorem fV:mv g []:=fun b o hm=>by cases hm
theorem eb{b:Nat}{o o':af}(h:g b=some o'):mv g [.put b o]:=fun c u hm=>by
 simp at hm; obtain ⟨rfl,_⟩:=hm; exact ⟨o',h⟩
theorem sD{o:af}:mv g [.push o]:=fun c u hm=>by simp at hm
theorem EH{b:Nat}{o u o':af}(h:g b=some o'):mv g [.put b o,.push u]:=fun c q hm=>by
 simp at hm; obtain ⟨rfl,_⟩:=hm; exact ⟨o',h⟩
theorem pY(hs:Sub g g'){t:TypeId}{x v:Value}(he:aLoad P g t x=some v):aLoad P g' t x=some v:=by
 unfold aLoad at *;split at he
 ·split at he
  ·rename_i hb; simp only [hs _ _ hb]; exact he
  ·cases he
 ·cases he
theorem tv(hs:Sub g g'){t:TypeId}{x k v:Value}{ok:Bool}(he:aLookup P g t x k ok=some v):aLookup P g' t x k ok=some v:=by
 unfold aLookup at *;split at he
 ·split at he
  ·rename_i hk hz
   try simp only [hk,hz]
   split at he
   ·rename_i hp
    rw [if_pos hp];split at he
    ·cases he
    ·rename_i es hes
     cases x with
     | map a =>
       cases a with
       | none=>exact (by cases hes; exact he)
       | some r =>
         dsimp only at hes ⊢
         split at hes
         ·rename_i hb
          cases hes;simp only [hs _ _ hb];exact he
         ·cases hes
     | _=>cases hes
   ·cases he
  ·cases he
 ·cases he
theorem lD(hs:Sub g g'){src dst:TypeId}{x v:Value}(he:aBytesToString P g src dst x=some v):aBytesToString P g' src dst x=some v:=by
 unfold aBytesToString at *;split at he
 ·exact he
 ·split at he
  ·rename_i h1 hb; simp only [h1,hs _ _ hb]; exact he
  ·cases he
 ·cases he
theorem tA(hs:Sub g g'){src dst:TypeId}{x v:Value}(he:aUnsafe P g src dst x=some v):aUnsafe P g' src dst x=some v:=by
 unfold aUnsafe at *;split at he
 ·exact he
 ·split at he
  ·rename_i hb ht; simp only [ht,hs _ _ hb]; exact he
  ·cases he
 ·exact he
 ·cases he
theorem tu(hs:Sub g g'){t:TypeId}{x v:Value}(he:aLenMap P g t x=some v):aLenMap P g' t x=some v:=by
 unfold aLenMap at *;split at he
 ·split at he
  ·rename_i hb; simp only [hs _ _ hb]; exact he
  ·cases he
 ·cases he
theorem ng(hs:Sub g g'){ρ : Operand→Value}{o:Oper}{v:Value}(he:opR P ρ g o=some v):opR P ρ g' o=some v:=by
 unfold opR at *;split at he
 ·exact pY hs he
 ·exact tv hs he
 ·rename_i src dst x _
  split at he
  ·rename_i u hu
   rw [lD hs hu]; exact he
  ·rename_i hu
   have hx:=tA hs he
   cases hb:aBytesToString P g' src dst (ρ x) with
   | none=>simp only [hb]; exact hx
   | some u =>
     exfalso;unfold aUnsafe at he;unfold aBytesToString at hb;split at he <;> split at hb <;> simp_all
 ·split at he
  ·rename_i h1 h2 h3
   try simp only [h1,h2,h3]
   exact tu hs he
  ·cases he
 ·cases he
theorem lQ(hs:Sub g g'){size n:Nat}{x:Value}{ns:List Value}(he:srcCells g size n x=some ns):srcCells g' size n x=some ns:=by
 unfold srcCells at *;split at he
 ·exact he
 ·split at he
  ·rename_i h0; rw [if_pos h0]; exact he
  ·rename_i h0
   rw [if_neg h0];split at he
   ·cases he
   ·rename_i h1
    rw [if_neg h1];split at he
    ·rename_i hb; simp only [hs _ _ hb]; exact he
    ·cases he
 ·exact he
 ·cases he
theorem Ao(hs:Sub g g'){size:Nat}{zero:List Value}{xd:TypeDesc}{x:Value}{r:List Value×Nat}(he:aSrc P g size zero xd x=some r):aSrc P g' size zero xd x=some r:=by
 unfold aSrc at *;split at he
 ·exact he
 ·split at he
  ·cases he
  ·rename_i h1
   obtain ⟨ns,h2,h3⟩:=Option.map_eq_some_iff.1 he;try simp only [h1,lQ hs h2]
   exact congrArg some h3
theorem u3(hs:Sub g g'){t:TypeId}{x v:Value}{es:List eF}(he:aStore P g t x v=some es):aStore P g' t x v=some es∧mv g es:=by
 unfold aStore at *;split at he
 ·split at he
  ·rename_i hb
   try simp only [hs _ _ hb]
   refine ⟨he,?_⟩
   split at he
   ·split at he
    ·cases he; exact eb hb
    ·cases he
   ·cases he
  ·cases he
 ·cases he
theorem mF(hs:Sub g g'){t:TypeId}{x k v:Value}{es:List eF}(he:aUpdate P g t x k v=some es):aUpdate P g' t x k v=some es∧mv g es:=by
 unfold aUpdate at *;split at he
 ·split at he
  ·rename_i hk hb
   try simp only [hk,hs _ _ hb]
   refine ⟨he,?_⟩
   split at he
   ·cases he
   ·cases he; exact eb hb
   ·split at he
    ·cases he; exact eb hb
    ·cases he
  ·cases he
 ·cases he
theorem u0(hs:Sub g g'){t:TypeId}{x k:Value}{r:Value×List eF}(he:nK P g t x k=some r):nK P g' t x k=some r∧mv g r.2:=by
 unfold nK at *;split at he
 ·split at he
  ·rename_i hk hb
   try simp only [hk,hs _ _ hb]
   refine ⟨he,?_⟩
   split at he
   ·cases he
   ·cases he; exact eb hb
   ·split at he
    ·split at he
     ·cases he; exact eb hb
     ·cases he
    ·cases he
  ·cases he
 ·cases he
theorem nL(hs:Sub g g'){x k v:Value}{es:List eF}(he:aEntryStore g x k v=some es):aEntryStore g' x k v=some es∧mv g es:=by
 unfold aEntryStore at *;split at he
 ·split at he
  ·rename_i hb
   try simp only [hs _ _ hb]
   refine ⟨he,?_⟩
   split at he
   ·cases he; exact eb hb
   ·cases he
  ·cases he
 ·cases he
theorem tj(hs:Sub g g'){ts:List TypeId}{xs:List Value}{r:Value×List eF}(he:aDelete P g ts xs=some r):aDelete P g' ts xs=some r∧mv g r.2:=by
 unfold aDelete at *;split at he
 ·split at he
  ·split at he
   ·rename_i hk
    try simp only [hk]
    refine ⟨he,?_⟩
    split at he
    ·cases he; exact fV
    ·cases he
   ·rename_i hk
    split at he
    ·rename_i hb
     try simp only [hk,hs _ _ hb]
     refine ⟨he,?_⟩
     split at he
     ·cases he
     ·cases he; exact eb hb
     ·split at he
      ·cases he; exact fV
      ·cases he
    ·cases he
   ·cases he
  ·cases he
 ·cases he
theorem uX(hs:Sub g g'){ts:List TypeId}{xs:List Value}{r:Value×List eF}(he:aClear P g ts xs=some r):aClear P g' ts xs=some r∧mv g r.2:=by
 unfold aClear at *;split at he
 ·split at he
  ·refine ⟨he,?_⟩
   cases he; exact fV
  ·split at he
   ·rename_i h0
    rw [if_pos h0];refine ⟨he,?_⟩
    cases he; exact fV
   ·rename_i h0
    rw [if_neg h0];split at he
    ·rename_i hz hb
     try simp only [hz,hs _ _ hb]
     refine ⟨he,?_⟩
     split at he
     ·cases he; exact eb hb
     ·cases he
    ·cases he
  ·cases he
 ·cases he
theorem xB(hs:Sub g g'){ts:List TypeId}{xs:List Value}{r:Value×List eF}(he:aCopy P g ts xs=some r):aCopy P g' ts xs=some r∧mv g r.2:=by
 unfold aCopy at *;split at he
 ·split at he
  ·split at he
   ·rename_i h1 h2
    split at he
    ·cases he
    ·rename_i ns hns
     try simp only [h1,h2,lQ hs hns]
     split at he
     ·cases he
     ·rename_i hc
      rw [if_neg hc];split at he
      ·refine ⟨he,?_⟩
       split at he
       ·cases he; exact fV
       ·cases he
      ·split at he
       ·rename_i h0
        rw [if_pos h0];refine ⟨he,?_⟩
        cases he; exact fV
       ·rename_i h0
        rw [if_neg h0];split at he
        ·rename_i hb
         try simp only [hs _ _ hb]
         refine ⟨he,?_⟩
         split at he
         ·cases he; exact eb hb
         ·cases he
        ·cases he
   ·cases he
  ·cases he
 ·cases he
theorem tf(hs:Sub g g'){sz:Nat}{ts:List TypeId}{xs:List Value}{r:Value×List eF}(he:aAppend P g sz ts xs=some r):aAppend P g' sz ts xs=some r∧mv g r.2:=by
 unfold aAppend at *;split at he
 ·split at he
  ·rename_i h1 h2
   try simp only [h1,h2]
   split at he
   ·cases he
   ·rename_i h3
    try simp only [h3]
    split at he
    ·cases he
    ·rename_i h4
     try simp only [h4]
     split at he
     ·cases he
     ·rename_i hc
      rw [if_neg hc];split at he
      ·cases he
      ·rename_i ns m hsrc
       try simp only [Ao hs hsrc]
       split at he
       ·cases he
       ·rename_i hn
        rw [if_neg hn];split at he
        ·refine ⟨he,?_⟩
         split at he
         ·cases he; exact fV
         ·split at he
          ·cases he
          ·cases he; exact sD
        ·split at he
         ·rename_i h0
          rw [if_pos h0];refine ⟨he,?_⟩
          cases he; exact fV
         ·rename_i h0
          rw [if_neg h0];split at he
          ·cases he
          ·rename_i h5
           rw [if_neg h5];split at he
           ·rename_i hb
            try simp only [hs _ _ hb]
            split at he
            ·cases he
            ·rename_i hr
             try simp only [hr]
             refine ⟨he,?_⟩
             split at he
             ·cases he; exact sD
             ·split at he
              ·split at he
               ·cases he; exact eb hb
               ·cases he; exact EH hb
              ·split at he
               ·cases he; exact eb hb
               ·cases he
           ·cases he
        ·cases he
  ·cases he
 ·cases he
theorem lF{sz:Nat}{src dst:TypeId}{x:Value}{r:Value×List eF}(he:gK P sz src dst x=some r):mv g r.2:=by
 cases he
theorem wy(hs:Sub g g'){ρ : Operand→Value}{o:Oper}{sz:Nat}{r:Value×List eF}(he:opB P ρ sz g o=some r):opB P ρ sz g' o=some r∧mv g r.2:=by
 unfold opB at *;split at he
 ·obtain ⟨z,hz,hvo⟩:=Option.map_eq_some_iff.1 he
  cases hvo;obtain ⟨h1,h2⟩:=u3 hs hz;exact ⟨by simp only [h1]; rfl,h2⟩
 ·obtain ⟨z,hz,hvo⟩:=Option.map_eq_some_iff.1 he
  cases hvo;obtain ⟨h1,h2⟩:=mF hs hz;exact ⟨by simp only [h1]; rfl,h2⟩
 ·obtain ⟨z,hz,hvo⟩:=Option.map_eq_some_iff.1 he
  cases hvo;obtain ⟨h1,h2⟩:=mF hs hz;exact ⟨by simp only [h1]; rfl,h2⟩
 ·exact u0 hs he
 ·obtain ⟨z,hz,hvo⟩:=Option.map_eq_some_iff.1 he
  cases hvo;obtain ⟨h1,h2⟩:=nL hs hz;exact ⟨by simp only [h1]; rfl,h2⟩
 ·exact ⟨he,lF he⟩
 ·split at he
  ·rename_i hc; (try simp only [hc]); exact tf hs he
  ·rename_i hc; (try simp only [hc]); exact xB hs he
  ·rename_i hc; (try simp only [hc]); exact uX hs he
  ·rename_i hc; (try simp only [hc]); exact tj hs he
  ·cases he
 ·cases he
end
def Hp.ok(h:Hp):Prop:=∀ b,h.sz≤b→h.get b=none
theorem Hp.ok.push{h:Hp}(k:h.ok)(o:af):(h.push o).ok:=fun b hb=>by
 rw [Hp.cy,if_neg (by have:=Hp.jO h o; omega)]
 exact k b (by have:=Hp.jO h o; omega)
theorem Hp.ok.put{h:Hp}(k:h.ok){b:Nat}(o:af)(hb:b<h.sz):(h.put b o).ok:=fun c hc=>by
 have:h.sz≤c:=hc
 rw [Hp.dy,if_neg (by omega)]
 exact k c this
theorem Hp.ok.lt{h:Hp}(k:h.ok){b:Nat}{o:af}(hb:h.get b=some o):b<h.sz:=by
 rcases Nat.lt_or_ge b h.sz with q | q
 ·exact q
 ·rw [k b q] at hb; cases hb
theorem Hp.tM:∀ (es:List eF) (h:Hp),h.sz≤(h.pr es).sz
 | [],h=>Nat.le_refl _
 | .put b o::es,h=>Hp.tM es (h.put b o)
 | .push o::es,h=>Nat.le_trans (Nat.le_succ _) (Hp.tM es (h.push o))
theorem Hp.vu:∀ (es:List eF) (h:Hp),(∃ o,eF.push o∈es)→h.sz<(h.pr es).sz
 | [],h,⟨o,ho⟩=>by cases ho
 | .put b o::es,h,⟨u,hu⟩=>Hp.vu es (h.put b o) ⟨u,by simpa using hu⟩
 | .push o::es,h,_=>Nat.lt_of_lt_of_le (Nat.lt_succ_self _) (Hp.tM es (h.push o))
theorem Hp.ok.pr:∀ (es:List eF) {h:Hp},h.ok→(∀ b o,eF.put b o∈es→b<h.sz)→(h.pr es).ok
 | [],h,k,_=>k
 | .put b o::es,h,k,hb=>Hp.ok.pr es (k.put o (hb b o (.head _))) (fun c u hc=>hb c u (.tail _ hc))
 | .push o::es,h,k,hb=>Hp.ok.pr es (k.push o) (fun c u hc=>Nat.lt_succ_of_lt (hb c u (.tail _ hc)))
def aM(hp:Hp)(h:HG):HG:=fun b=>if b<hp.sz then hp.get b else h b
theorem Ex{hp:Hp}{h:HG}(e:∀ b,b<hp.sz→h b=hp.get b):aM hp h=h:=by
 funext b; unfold aM
 split
 ·rename_i hb; exact (e b hb).symm
 ·rfl
theorem bq{hp:Hp}(k:hp.ok)(h:HG):Sub hp.get (aM hp h):=fun b o hb=>by
 unfold aM; rw [if_pos (k.lt hb)]; exact hb
theorem wA{hp:Hp}{h:HG}{o:af}:bS (aM hp h) hp.sz o=aM (hp.push o) h:=by
 funext b; unfold bS aM
 rw [Hp.jO,Hp.cy];by_cases e:b=hp.sz
 ·subst e; simp
 ·rw [if_neg e,if_neg e]
  by_cases e2:b<hp.sz
  ·rw [if_pos e2,if_pos (by omega)]
  ·rw [if_neg e2,if_neg (by omega)]
theorem zV{hp:Hp}{h:HG}{b:Nat}{o:af}(hb:b<hp.sz):bS (aM hp h) b o=aM (hp.put b o) h:=by
 funext c; unfold bS aM
 rw [Hp.kG,Hp.dy];by_cases e:c=b
 ·subst e; simp [hb]
 ·rw [if_neg e,if_neg e]
theorem uh:∀ (es:List eF) {hp:Hp} {h:HG},(∀ b o,eF.put b o∈es→b<hp.sz)→tL (aM hp h) hp.sz es=aM (hp.pr es) h
 | [],hp,h,_=>rfl
 | .put b o::es,hp,h,hb=>by
   show tL (bS (aM hp h) b o) hp.sz es=_
   rw [zV (hb b o (.head _))];exact uh es (hp:=hp.put b o) (fun c u hc=>hb c u (.tail _ hc))
 | .push o::es,hp,h,hb=>by
   show tL (bS (aM hp h) hp.sz o) (hp.sz+1) es=_
   rw [wA];exact uh es (hp:=hp.push o) (fun c u hc=>Nat.lt_succ_of_lt (hb c u (.tail _ hc)))
inductive mu (m:BM) (h:HG):List (FuncId×List Value)→List Deferred→Prop
 | nil:mu m h [] []
 | cons {f:FuncId} {args:List Value} {d:Deferred} {cap:Array Value} {df:List (FuncId×List Value)} {ds:List Deferred} :
   d.target = .fn (.func f) cap→aD m h args (d.args++cap).toList→mu m h df ds→mu m h ((f,args)::df) (d::ds)
theorem mu.mono{m m':BM}{h h':HG}(l:Le m h m' h'){df:List (FuncId×List Value)}{ds:List Deferred}(r:mu m h df ds):mu m' h' df ds:=by
 induction r with
 | nil=>exact .nil
 | cons h1 h2 _ ih=>exact .cons h1 (h2.mono l) ih
def yQ(P:Program)(f:FuncId)(args:Array Value)(w:World)(R:Value→World→Prop):Prop :=
 (∃ v' w',(callFunc f args).run P w = .ok (.value v') w'∧R v' w') ∨
 ((callFunc f args).run P w = .ok (.enter f args) w∧Calls P f args w fun e w'=>∃ v',e = .returned v'∧R v' w')
def ba(P:Program)(call:aG):Prop :=
 ∀ f args hp v hp',call f args hp=some (v,hp')→hp.ok→hp'.ok∧hp.sz≤hp'.sz ∧
   ∀ m h w args',(∀ b,hp.sz≤b→b<hp'.sz→h b=none)→cg m (aM hp h) w→aD m (aM hp h) args args'.toList →
     yQ P f args' w fun v' w'=>∃ m',dR m (aM hp h) w m' (aM hp' h) w'∧aj m' (aM hp' h) v v'
section
variable {P:Program} {w:World} {m:BM} {h:HG}
theorem nD{ρ ρ':Operand→Value}{c:Call}{f:FuncId}{args:List Value}{type:TypeId}(he:target ρ c=some (f,args))(hr:∀ x∈c.operands.toList,aj m h (ρ x) (ρ' x)) :
  ∃ d cap,(∀ w,(resolve ρ' c type).run P w = .ok d w)∧d.target = .fn (.func f) cap∧aD m h args (d.args++cap).toList:=by
 unfold target at he;split at he
 ·rename_i f0 hcal
  have hf:=hr f0 (by simp [Call.operands,hcal])
  split at he
  ·rename_i g first captured hfv
   cases he;rw [hfv] at hf;obtain ⟨a',c',hv,h1,h2⟩:=hf.zQ;have hargs:aD m h (c.args.toList.map ρ) (c.args.map ρ').toList:=by
     rw [Array.toList_map];exact aD.map fun x hx=>hr x (by simp only [Call.operands,hcal,Array.toList_append,List.mem_append]; exact .inr hx)
   refine ⟨⟨.fn (.func f) c',a'++c.args.map ρ'⟩,c',fun w=>?_,rfl,?_⟩
   ·simp only [resolve,hcal,hv,Deferred.ofValue,Sem.run_pure]
   ·simp only [Array.toList_append]
    exact (h1.toList.append hargs).append h2.toList
  ·cases he
 ·cases he
theorem cC{f:FuncId}{fn:Func}{args:Array Value}(hf:P.funcs[f]? = some fn)(hb:fn.body.isSome=true)(hn:(fn.name == "runtime.NumGoroutine")=false):(callFunc f args).run P w = .ok (.enter f args) w:=by
 have h1:fn.body.isNone=false:=by cases hq:fn.body <;> simp_all
 simp only [callFunc,Sem.run_bind,run_program,Result.andThen_ok,hf,hn,h1,Bool.false_eq_true,if_false,Sem.run_pure]
theorem M3{m0:BM}{h0:HG}{w0:World}(g:dR m0 h0 w0 m h w){sz:Nat}{o:af}{obj:Obj}{E:Nat}(hs:h sz=some o)(hm:m sz=none)(h0s:h0 sz=none)
  (hb:∀ m' h',Le m h m' h'→BRel m' h' (w.alloc obj) (w.heap.size,0,E) o) :
  dR m0 h0 w0 (da m sz (w.heap.size,0,E)) h (w.alloc obj)∧Le m h (da m sz (w.heap.size,0,E)) h:=by
 have s:=g.sim
 have l:Le m h (da m sz (w.heap.size,0,E)) h:=by
  refine ⟨fun _ hd=>hd,fun b y hb=>.inr ?_⟩
  unfold da;by_cases e:b=sz
  ·subst e; rw [hm] at hb; cases hb
  ·rw [if_neg e]; exact hb
 have hold:∀ k,k<w.heap.size→(w.alloc obj).heap[k]? = w.heap[k]?:=fun k hk=>by
  show (w.heap.push obj)[k]? = _
  rw [Array.getElem?_push,if_neg (by omega)]
 have hold2:∀ b x,b≠sz→da m sz (w.heap.size,0,E) b=some x→m b=some x:=fun b x e hx=>by simpa [da,e] using hx
 refine ⟨⟨g.le.trans l,⟨?_,?_⟩,Nat.le_trans g.size (by show _≤(w.heap.push obj).size; simp),?_,?_,?_,g.idle,g.ex,g.rwb,g.os,⟨g.tape.eq,g.tape.dr⟩,g.output⟩,l⟩
 ·intro b x hx
  by_cases e:b=sz
  ·subst e; simp [da] at hx; subst hx
   exact ⟨o,hs,hb _ _ l⟩
  ·have hx':=hold2 b x e hx
   obtain ⟨o',ho',hr⟩:=s.dom b x hx';refine ⟨o',ho',?_⟩
   by_cases hd:o' = .dead
   ·subst hd; trivial
   ·refine hr.mono l (hold _ (s.lt hx' ?_))
    unfold aV; rw [ho']; cases o' <;> simp_all
 ·intro b b' x x' hx hx' hr hl hxx
  by_cases e:b=sz <;> by_cases e':b'=sz
  ·rw [e,e']
  ·subst e; simp [da] at hx; subst hx
   have:=s.lt (hold2 _ _ e' hx') hl
   simp at hxx; omega
  ·subst e'; simp [da] at hx'; subst hx'
   have:=s.lt (hold2 _ _ e hx) (c8 hr)
   simp at hxx; omega
  ·exact s.inj b b' x x' (hold2 _ _ e hx) (hold2 _ _ e' hx') hr hl hxx
 ·intro b x hx
  by_cases e:b=sz
  ·subst e; simp [da] at hx; subst hx
   exact .inr (.inl g.size)
  ·exact g.new b x (hold2 b x e hx)
 ·intro r hr hh
  rw [hold r (Nat.lt_of_lt_of_le hr g.size)];exact g.frame r hr hh
 ·intro b o' hb' hm'
  have e:b≠sz:=by intro e; subst e; rw [h0s] at hb'; cases hb'
  unfold da; rw [if_neg e]; exact g.un b o' hb' hm'
theorem il{call:aG}(hc:ba P call){o:Oper}{st:St}{v:Value}{hp':Hp}{df':List (FuncId×List Value)}(he:aStep P call o st=some (v,hp',df'))(hok:st.hp.ok) :
  hp'.ok∧st.hp.sz≤hp'.sz∧∀ (m:BM) (h:HG) (w:World) (a:Act),(∀ b,st.hp.sz≤b→b<hp'.sz→h b=none)→cg m (aM st.hp h) w →
   (∀ x∈o.op.operands.toList,aj m (aM st.hp h) (st.eval x) (a.eval x))→mu m (aM st.hp h) st.df a.defers →
   ∀ (next:Act→World→Prop) (Q:Exit→Act→World→Prop),
     (∀ m' w' v' ds',dR m (aM st.hp h) w m' (aM hp' h) w'→aj m' (aM hp' h) v v'→mu m' (aM hp' h) df' ds'→next ({ a with defers:=ds' }.put o.dst v') w') →
     o.wp P a w next Q:=by
 unfold aStep at he;split at he
 ·
  split at he
  ·rename_i v0 hop
   cases he;refine ⟨hok,Nat.le_refl _,fun m h w a hfr s hr hd next Q hn=>?_⟩
   obtain ⟨v',h1,h2⟩:r8 P m (aM st.hp h) w st.hp.sz none v _:=lf hop hr;unfold Oper.wp;rw [h1,Oper.upon_value];exact hn m w v' a.defers (dR.refl s) h2 hd
  ·rename_i v0 b hop
   cases he;refine ⟨hok.push b,Nat.le_succ _,fun m h w a hfr s hr hd next Q hn=>?_⟩
   obtain ⟨v',obj,E,h1,h2,h3⟩:r8 P m (aM st.hp h) w st.hp.sz (some b) v _:=lf hop hr;have hnone:aM st.hp h st.hp.sz=none:=by
     unfold aM; rw [if_neg (Nat.lt_irrefl _)];exact hfr _ (Nat.le_refl _) (Nat.lt_succ_self _)
   have g:=zY (E:=E) s hnone h3
   rw [wA] at g h2;unfold Oper.wp;rw [h1,Oper.upon_value];exact hn _ _ v' a.defers g h2 (hd.mono g.le)
  ·cases he
 ·
  split at he
  ·rename_i v0 hop
   cases he;refine ⟨hok,Nat.le_refl _,fun m h w a hfr s hr hd next Q hn=>?_⟩
   obtain ⟨v',h1,h2⟩:=sA s (ng (bq hok h) hop) hr;unfold Oper.wp;rw [h1,Oper.upon_value];exact hn m w v' a.defers (dR.refl s) h2 hd
  ·cases he
 ·
  split at he
  ·rename_i v0 es hop
   cases he;have hputs:∀ b o,eF.put b o∈es→b<st.hp.sz:=fun b o hm=>by
     obtain ⟨o',ho⟩:=(wy (g':=st.hp.get) (fun _ _ hh=>hh) hop).2 b o hm
     exact hok.lt ho
   refine ⟨hok.pr es hputs,Hp.tM es _,fun m h w a hfr s hr hd next Q hn=>?_⟩
   have hnone:(∃ o,eF.push o∈es)→aM st.hp h st.hp.sz=none:=fun hp=>by
     unfold aM; rw [if_neg (Nat.lt_irrefl _)];exact hfr _ (Nat.le_refl _) (Hp.vu es _ hp)
   obtain ⟨w',m',g,hh⟩:=A4 s hnone (wy (bq hok h) hop).1 hr;rw [uh es hputs] at g hh;unfold Oper.wp;rcases hh with ⟨v',h1,h2⟩ | ⟨h1,rfl⟩
   ·rw [h1,Oper.upon_value]
    exact hn m' w' v' a.defers g h2 (hd.mono g.le)
   ·rw [h1,Oper.upon_skip]
    exact hn m' w' undef a.defers g aj.undef (hd.mono g.le)
  ·split at he
   ·rename_i c hoc
    split at he
    ·rename_i f args ht
     split at he
     ·rename_i v1 h1 hcall
      cases he;obtain ⟨k1,k2,k3⟩:=hc f args st.hp v hp' hcall hok;refine ⟨k1,k2,fun m h w a hfr s hr hd next Q hn=>?_⟩
      obtain ⟨d,cap,hres,htar,hargs⟩:=nD (P:=P) (type:=o.type) ht (fun x hx=>hr x (by rw [hoc]; exact hx))
      have hrun:(execOp a.eval o).run P w=(callFunc f (d.args++cap)).run P w:=by
        simp only [execOp,hoc,Sem.run_bind,hres,Result.andThen_ok,htar,invoke]
      unfold Oper.wp;rw [hrun];rcases k3 m h w _ hfr s hargs with ⟨v',w',h2,m',g,h3⟩ | ⟨h2,h3⟩
      ·rw [h2,Oper.upon_value]
       exact hn m' w' v' a.defers g h3 (hd.mono g.le)
      ·rw [h2,Oper.upon_enter]
       refine h3.mono fun e w' hh=>?_
       obtain ⟨v',rfl,m',g,h4⟩:=hh;exact hn m' w' v' a.defers g h4 (hd.mono g.le)
     ·cases he
    ·cases he
   ·rename_i c hoc
    split at he
    ·rename_i f args ht
     cases he;refine ⟨hok,Nat.le_refl _,fun m h w a hfr s hr hd next Q hn=>?_⟩
     obtain ⟨d,cap,hres,htar,hargs⟩:=nD (P:=P) (type:=o.type) ht (fun x hx=>hr x (by rw [hoc]; exact hx))
     have hrun:(execOp a.eval o).run P w = .ok (.defer d) w:=by
       simp only [execOp,hoc,Sem.run_bind,hres,Result.andThen_ok,Sem.run_pure]
     unfold Oper.wp;rw [hrun,Oper.upon_defer];exact hn m w undef (d::a.defers) (dR.refl s) aj.undef (.cons htar hargs hd)
    ·cases he
   ·cases he
end
structure lV (n:Nat) (m:BM) (h:HG) (st:St) (a:Act):Prop where
 size:a.tmps.size=n
 tm:∀ t,aj m h (st.dK t) (a.tmps.getD t undef)
theorem lV.mono{n:Nat}{m m':BM}{h h':HG}(l:Le m h m' h'){st:St}{a:Act}(r:lV n m h st a):lV n m' h' st a:=⟨r.size,fun t=>(r.tm t).mono l⟩
theorem St.q8(s:St)(d:Option Tmp)(v:Value)(t:Tmp):(s.tput d v).dK t=if d=some t then v else s.dK t:=by
 cases d with
 | none=>simp [St.tput]
 | some d =>
   simp only [St.tput,St.dK,Tr.jv _ _ _ _ _ (Nat.lt_succ_self d)];by_cases e:t=d
   ·subst e; simp
   ·rw [if_neg e,if_neg (by simp; exact Ne.symm e)]
theorem Act.vF(a:Act)(d:Option Tmp)(v:Value)(t:Tmp)(hd:∀ x,d=some x→x<a.tmps.size):(a.put d v).tmps.getD t undef=if d=some t then v else a.tmps.getD t undef:=by
 cases d with
 | none=>simp [Act.put]
 | some d =>
   have:=hd d rfl
   simp only [Act.put];by_cases e:d=t
   ·subst e; simp [this]
   ·rw [if_neg (by simp; exact e)]
    simp [Array.getElem?_setIfInBounds_ne e]
theorem Act.ny(a:Act)(d:Option Tmp)(v:Value):(a.put d v).tmps.size=a.tmps.size:=by
 cases d <;> simp [Act.put]
theorem Act.gR(a:Act)(d:Option Tmp)(v:Value):(a.put d v).defers=a.defers:=by
 cases d <;> simp [Act.put]
theorem lV.put{n:Nat}{m:BM}{h:HG}{st:St}{a:Act}(r:lV n m h st a){d:Option Tmp}{v v':Value}(hd:∀ x,d=some x→x<n)(hv:aj m h v v'):lV n m h (st.tput d v) (a.put d v'):=by
 refine ⟨by rw [Act.ny]; exact r.size,fun t=>?_⟩
 rw [St.q8,Act.vF _ _ _ _ (fun x hx=>by rw [r.size]; exact hd x hx)]
 split
 ·exact hv
 ·exact r.tm t
theorem lV.eval{n:Nat}{m:BM}{h:HG}{st:St}{a:Act}(r:lV n m h st a){x:Operand}(hx:gv x=true):aj m h (st.eval x) (a.eval x):=by
 cases x with
 | tmp t=>exact r.tm t
 | const v=>exact aj.plain hx
 | global g=>cases hx
 | func f=>exact aj.fn f
theorem aj.IJ{m:BM}{h:HG}{v:Value}{b:Bool}(r:aj m h v (.bool b)):v = .bool b:=by
 cases r with
 | flat=>rfl
 | junk h1=>exact absurd rfl (h1 b)
theorem Bu{st:St}{t:Nat}{b:Bool}(h:st.dK t = .bool b):st.tm.get t=some (.bool b):=by
 unfold St.dK at h;cases hq:st.tm.get t with
 | none=>rw [hq] at h; simp [undef] at h
 | some v=>rw [hq] at h; simp at h; rw [h]
theorem rD{m:BM}{h:HG}{ops:Array Oper}{st:St}{a:Act}{o:Oper}
  (hr:∀ j w t,o.guard=some (j,w)→(ops[j]?).bind (·.dst)=some t→aj m h (st.dK t) (a.tmps.getD t undef)) :
  Region.wanted o (yielded ops a.tmps)=aWanted ops st o:=by
 unfold Region.wanted aWanted;cases hg:o.guard with
 | none=>rfl
 | some jw =>
   obtain ⟨j,want⟩:=jw;simp only;unfold yielded;cases ht:(ops[j]?).bind (·.dst) with
   | none=>rfl
   | some t =>
     have r:=hr j want t hg ht
     simp only [Option.bind_some];cases hq:a.tmps[t]? with
     | none =>
       have hu:a.tmps.getD t undef=undef:=by simp [hq]
       rw [hu] at r;cases hs:st.tm.get t with
       | none=>rfl
       | some v =>
         have:st.dK t=v:=by simp [St.dK,hs]
         rw [this] at r;cases v with
         | bool b=>have:=r.of_bool; simp [undef] at this
         | _=>rfl
     | some u =>
       have hu:a.tmps.getD t undef=u:=by simp [hq]
       rw [hu] at r;cases u with
       | bool b =>
         have:=Bu r.IJ
         simp only [this];cases b <;> cases want <;> rfl
       | _ =>
         cases hs:st.tm.get t with
         | none=>rfl
         | some v =>
           have:st.dK t=v:=by simp [St.dK,hs]
           rw [this] at r;cases v with
           | bool b=>have:=r.of_bool; cases this
           | _=>rfl
structure Rel (n:Nat) (m:BM) (h:HG) (w:World) (st:St) (a:Act):Prop where
 sim:cg m (aM st.hp h) w
 tm:lV n m (aM st.hp h) st a
 df:mu m (aM st.hp h) st.df a.defers
theorem Rel.Qw{n:Nat}{m m':BM}{h:HG}{w w':World}{st:St}{a:Act}{hp':Hp}{df':List (FuncId×List Value)}{ds':List Deferred}{d:Option Tmp}{v v':Value}
  (r:Rel n m h w st a) (g:dR m (aM st.hp h) w m' (aM hp' h) w') (hv:aj m' (aM hp' h) v v') (hd:mu m' (aM hp' h) df' ds') (hb:∀ x,d=some x→x<n) :
  Rel n m' h w' ({ st with hp:=hp',df:=df' }.tput d v) ({ a with defers:=ds' }.put d v'):=by
 have e1:({ st with hp:=hp',df:=df' }.tput d v:St).hp=hp':=by cases d <;> rfl
 have e2:({ st with hp:=hp',df:=df' }.tput d v:St).df=df':=by cases d <;> rfl
 refine ⟨by rw [e1]; exact g.sim,?_,by rw [e1,e2,Act.gR]; exact hd⟩
 rw [e1];have t:=r.tm.mono g.le
 exact lV.put (st:={ st with hp:=hp',df:=df' }) (a:={ a with defers:=ds' }) ⟨t.size,t.tm⟩ hb hv
theorem Rel.skip{n:Nat}{m:BM}{h:HG}{w:World}{st:St}{a:Act}{d:Option Tmp}(r:Rel n m h w st a)(hb:∀ x,d=some x→x<n):Rel n m h w (st.tput d undef) (a.put d undef):=by
 have e1:(st.tput d undef:St).hp=st.hp:=by cases d <;> rfl
 have e2:(st.tput d undef:St).df=st.df:=by cases d <;> rfl
 exact ⟨by rw [e1]; exact r.sim,by rw [e1]; exact r.tm.put hb aj.undef,by rw [e1,e2,Act.gR]; exact r.df⟩
section
variable {P:Program}
theorem wv{n:Nat}{o:Oper}(h:rU n o=true):(∀ x,o.dst=some x→x<n)∧∀ x∈o.op.operands.toList,gv x=true:=by
 unfold rU at h;simp only [Bool.and_eq_true,List.all_eq_true] at h;refine ⟨fun x hx=>?_,h.2⟩
 have:=h.1
 rw [hx] at this;simpa using this
theorem lq{call:aG}(hc:ba P call){ops:Array Oper}:∀ (os:List Oper) (st st':St),runOps P call ops os st=some st'→st.hp.ok→st'.hp.ok∧st.hp.sz≤st'.hp.sz
 | [],st,st',he,hk=>by cases he; exact ⟨hk,Nat.le_refl _⟩
 | o::os,st,st',he,hk=>by
   unfold runOps at he;split at he
   ·have:=lq hc os _ st' he (by cases o.dst <;> exact hk)
    refine ⟨this.1,?_⟩
    cases hd:o.dst <;> (rw [hd] at this; exact this.2)
   ·split at he
    ·rename_i v hp df hs
     obtain ⟨k1,k2,_⟩:=il hc hs hk;have:=lq hc os _ st' he (by cases o.dst <;> exact k1)
     refine ⟨this.1,Nat.le_trans k2 ?_⟩
     cases hd:o.dst <;> (rw [hd] at this; exact this.2)
    ·cases he
theorem jJ{call:aG}(hc:ba P call){ops:Array Oper}{n:Nat}:∀ (os:List Oper) (i:Nat) (st st':St),ops.toList.drop i=os→(∀ o∈os,rU n o=true)→runOps P call ops os st=some st'→st.hp.ok →
  ∀ (m:BM) (h:HG) (w:World) (a:Act),(∀ b,st.hp.sz≤b→b<st'.hp.sz→h b=none)→Rel n m h w st a →
  ∀ (Q:Exit→Act→World→Prop),(∀ m' w' a',dR m (aM st.hp h) w m' (aM st'.hp h) w'→Rel n m' h w' st' a'→Q .normal a' w')→wpOps P ops Q (List.range' i os.length) a w
 | [],i,st,st',hi,hok,he,hk,m,h,w,a,hf,r,Q,hQ=>by
   cases he;exact hQ m w a (dR.refl r.sim) r
 | o::os,i,st,st',hi,hok,he,hk,m,h,w,a,hf,r,Q,hQ=>by
   have hio:ops[i]? = some o:=by
     have:(ops.toList.drop i)[0]? = some o:=by rw [hi]; rfl
     simpa using this
   have hi':ops.toList.drop (i+1)=os:=by
     have:=congrArg (List.drop 1) hi
     simpa [List.drop_drop,Nat.add_comm] using this
   obtain ⟨hb,hop⟩:=wv (hok o (.head _));have hwant:Region.wanted o (yielded ops a.tmps)=aWanted ops st o:=rD fun j w t _ _=>r.tm.tm t
   rw [List.length_cons,List.range'_succ];simp only [wpOps,hio,hwant];unfold runOps at he;split at he
   ·rename_i hw
    rw [hw];simp only [Bool.false_eq_true,if_false];have e1:(st.tput o.dst undef:St).hp=st.hp:=by cases o.dst <;> rfl
    refine jJ hc os (i+1) _ st' hi' (fun o ho=>hok o (.tail _ ho)) he (by rw [e1]; exact hk) m h w _ (by rw [e1]; exact hf) (r.skip hb) Q ?_
    rw [e1];exact hQ
   ·rename_i hw
    rw [hw];simp only [if_true];split at he
    ·rename_i v hp df hs
     obtain ⟨k1,k2,k3⟩:=il hc hs hk;have e1:({ st with hp:=hp,df:=df }.tput o.dst v:St).hp=hp:=by cases o.dst <;> rfl
     have k4:=(lq hc os _ st' he (by rw [e1]; exact k1)).2
     rw [e1] at k4;refine .inl (k3 m h w a (fun b h1 h2=>hf b h1 (Nat.lt_of_lt_of_le h2 k4)) r.sim (fun x hx=>r.tm.eval (hop x hx)) r.df _ Q ?_)
     intro m' w' v' ds' g hv hd;refine jJ hc os (i+1) _ st' hi' (fun o ho=>hok o (.tail _ ho)) he (by rw [e1]; exact k1) m' h w' _ (by rw [e1]; exact fun b h1 h2=>hf b (Nat.le_trans k2 h1) h2) (r.Qw g hv hd hb) Q ?_
     rw [e1];intro m2 w2 a2 g2 r2;exact hQ m2 w2 a2 (g.trans g2) r2
    ·cases he
def lT(P:Program)(n:Nat)(id:Nat)(ops:Array Oper)(draw:Bool)(st st':St):Prop :=
 st'.hp.ok∧st.hp.sz≤st'.hp.sz∧∀ (m:BM) (h:HG) (w:World) (a:Act),(∀ b,st.hp.sz≤b→b<st'.hp.sz→h b=none)→Rel n m h w st a →
  ∀ (Q:Exit→Act→World→Prop),(∀ m' w' a',dR m (aM st.hp h) w m' (aM st'.hp h) w'→Rel n m' h w' st' a'→Q .normal a' w')→(Code.region id ops draw).wp P Q a w
theorem um{call:aG}(hc:ba P call){ops:Array Oper}{n id:Nat}{st st':St}(hok:ops.toList.all (rU n)=true)(he:runOps P call ops ops.toList st=some st')(hk:st.hp.ok):lT P n id ops false st st':=by
 obtain ⟨k1,k2⟩:=lq hc _ _ _ he hk;refine ⟨k1,k2,fun m h w a hf r Q hQ=>wp_region ?_⟩
 have:=jJ hc ops.toList 0 st st' rfl (fun o ho=>List.all_eq_true.1 hok o ho) he hk m h w a hf r Q hQ
 rw [List.range_eq_range'];simpa using this
end
theorem zU{acc:Array Nat}:∀ (l:List Edge) (s x:Nat),(l.foldl (fun s e=>if Region.binds .any e then s ||| 2 ^ e.on ||| acc.getD e.on 0 else s) s).testBit x=true →
  s.testBit x=true∨∃ e∈l,Region.binds .any e=true∧(e.on=x∨(acc.getD e.on 0).testBit x=true)
 | [],s,x,h=>.inl h
 | e::l,s,x,h=>by
   rw [List.foldl_cons] at h;rcases zU l _ x h with h | ⟨e',h1,h2⟩
   ·split at h
    ·rename_i hb
     rw [Nat.testBit_or,Nat.testBit_or,Bool.or_eq_true,Bool.or_eq_true] at h;rcases h with (h | h) | h
     ·exact .inl h
     ·exact .inr ⟨e,.head _,hb,.inl (by simpa [Nat.testBit_two_pow] using h)⟩
     ·exact .inr ⟨e,.head _,hb,.inr h⟩
    ·exact .inl h
   ·exact .inr ⟨e',.tail _ h1,h2⟩
def eG(acc:Array Nat)(o:Oper):Array Nat :=
 acc.push (o.after.foldl (fun s e=>if Region.binds .any e then s ||| 2 ^ e.on ||| acc.getD e.on 0 else s) 0)
theorem u7:∀ (l:List Oper) (acc:Array Nat),(∀ y,y<acc.size→(l.foldl eG acc).getD y 0=acc.getD y 0)∧(l.foldl eG acc).size=acc.size+l.length ∧
  ∀ k o x,l[k]? = some o→((l.foldl eG acc).getD (acc.size+k) 0).testBit x=true →
    ∃ e∈o.after.toList,Region.binds .any e=true∧(e.on=x∨((l.foldl eG acc).getD e.on 0).testBit x=true)
 | [],acc=>⟨fun _ _=>rfl,by simp,fun k o x h=>by simp at h⟩
 | o::l,acc=>by
   obtain ⟨h1,h2,h3⟩:=u7 l (eG acc o);have hsz:(eG acc o).size=acc.size+1:=by simp [eG]
   have hold:∀ y,y<acc.size→(eG acc o).getD y 0=acc.getD y 0:=fun y hy=>by
     simp [eG,Array.getElem?_push,Nat.ne_of_lt hy]
   simp only [List.foldl_cons];refine ⟨fun y hy=>by rw [h1 y (by omega),hold y hy],by rw [h2,hsz]; simp; omega,fun k u x hk hb=>?_⟩
   cases k with
   | zero =>
     simp only [List.getElem?_cons_zero,Option.some.injEq] at hk
     subst hk;rw [Nat.add_zero,h1 _ (by omega)] at hb
     have hv:(eG acc o).getD acc.size 0=o.after.foldl (fun s e=>if Region.binds .any e then s ||| 2 ^ e.on ||| acc.getD e.on 0 else s) 0:=by
       simp [eG]
     rw [hv,← Array.foldl_toList] at hb;rcases zU _ _ _ hb with hb | ⟨e,q1,q2,q3⟩
     ·simp at hb
     ·refine ⟨e,q1,q2,q3.imp id fun q=>?_⟩
      have hlt:e.on<acc.size:=by
        rcases Nat.lt_or_ge e.on acc.size with h | h
        ·exact h
        ·simp [Array.getElem?_eq_none h] at q
      rw [h1 _ (by omega),hold _ hlt]
      exact q
   | succ k =>
     exact h3 k u x (by simpa using hk) (by rw [hsz]; rwa [show acc.size+(k+1)=acc.size+1+k from by omega] at hb)
theorem oB{ops:Array Oper}{y x:Nat}{o:Oper}(ho:ops[y]? = some o)(hb:((Region.before ops).getD y 0).testBit x=true) :
  ∃ e∈o.after.toList,Region.binds .any e=true∧(e.on=x∨((Region.before ops).getD e.on 0).testBit x=true):=by
 have e:Region.before ops=ops.toList.foldl eG #[]:=by
  unfold Region.before;rw [← Array.foldl_toList];rfl
 rw [e] at hb ⊢;exact (u7 ops.toList #[]).2.2 y o x (by simpa using ho) (by simpa using hb)
structure Trace (P:Program) (call:aG) (ops:Array Oper) (st0:St) (st:Nat→St) (v:Nat→Value):Prop where
 zero:st 0=st0
 step:∀ i o,ops[i]? = some o→(aWanted ops (st i) o=false∧v i=undef∧st (i+1)=(st i).tput o.dst undef) ∨
  (aWanted ops (st i) o=true∧∃ hp df,aStep P call o (st i)=some (v i,hp,df)∧st (i+1) = { st i with hp:=hp,df:=df }.tput o.dst (v i))
def iI(P:Program)(call:aG)(ops:Array Oper)(st st':St)(v:Value)(o:Oper):Prop :=
 (aWanted ops st o=false∧v=undef∧st'=st.tput o.dst undef) ∨
   (aWanted ops st o=true∧∃ hp df,aStep P call o st=some (v,hp,df)∧st' = { st with hp:=hp,df:=df }.tput o.dst v)
theorem nq{P:Program}{call:aG}{ops:Array Oper}:∀ (os:List Oper) (st st':St),runOps P call ops os st=some st' →
  ∃ (s:Nat→St) (v:Nat→Value),s 0=st∧s os.length=st'∧∀ i o,os[i]? = some o→iI P call ops (s i) (s (i+1)) (v i) o
 | [],st,st',h=>by cases h; exact ⟨fun _=>st,fun _=>undef,rfl,rfl,fun i o hi=>by simp at hi⟩
 | o::os,st,st',h=>by
   unfold runOps at h;have mk:∀ (st1:St) (v1:Value),runOps P call ops os st1=some st'→iI P call ops st st1 v1 o →
       ∃ (s:Nat→St) (v:Nat→Value),s 0=st∧s (o::os).length=st'∧∀ i u,(o::os)[i]? = some u→iI P call ops (s i) (s (i+1)) (v i) u:=by
     intro st1 v1 h1 hs;obtain ⟨s,v,h2,h3,h4⟩:=nq os st1 st' h1;refine ⟨fun i=>match i with | 0=>st | i+1=>s i,fun i=>match i with | 0=>v1 | i+1=>v i,rfl,by simpa using h3,fun i u hi=>?_⟩
     cases i with
     | zero =>
       simp only [List.getElem?_cons_zero,Option.some.injEq] at hi
       subst hi;simpa [h2] using hs
     | succ i=>exact h4 i u (by simpa using hi)
   split at h
   ·rename_i hw
    exact mk _ undef h (.inl ⟨hw,rfl,rfl⟩)
   ·rename_i hw
    split at h
    ·rename_i v hp df hs
     exact mk _ v h (.inr ⟨hw,hp,df,hs,rfl⟩)
    ·cases h
theorem np{P:Program}{call:aG}{ops:Array Oper}:∀ (os:List Oper) (n:Nat) (st st':St) (l:List Log),runLog P call ops os n st=some (st',l) →
  ∃ (s:Nat→St) (v:Nat→Value),s 0=st∧s os.length=st'∧(∀ i o,os[i]? = some o→iI P call ops (s i) (s (i+1)) (v i) o) ∧
    ∀ i o,os[i]? = some o→aWanted ops (s i) o=true→(cls P o = .read→Log.read (n+i) (fun get=>opR P (s i).eval get o) (v i)∈l)∧(cls P o = .big→Log.big (n+i) (s i).hp (s (i+1)).hp∈l)
 | [],n,st,st',l,h=>by cases h; exact ⟨fun _=>st,fun _=>undef,rfl,rfl,fun i o hi=>by simp at hi,fun i o hi=>by simp at hi⟩
 | o::os,n,st,st',l,h=>by
   unfold runLog at h;have mk:∀ (st1:St) (v1:Value) (l1:List Log),runLog P call ops os (n+1) st1=some (st',l1)→iI P call ops st st1 v1 o→(∀ x∈l1,x∈l) →
       (aWanted ops st o=true→(cls P o = .read→Log.read n (fun get=>opR P st.eval get o) v1∈l)∧(cls P o = .big→Log.big n st.hp st1.hp∈l)) →
       ∃ (s:Nat→St) (v:Nat→Value),s 0=st∧s (o::os).length=st'∧(∀ i u,(o::os)[i]? = some u→iI P call ops (s i) (s (i+1)) (v i) u) ∧
         ∀ i u,(o::os)[i]? = some u→aWanted ops (s i) u=true→(cls P u = .read→Log.read (n+i) (fun get=>opR P (s i).eval get u) (v i)∈l)∧(cls P u = .big→Log.big (n+i) (s i).hp (s (i+1)).hp∈l):=by
     intro st1 v1 l1 h1 hs hl ho;obtain ⟨s,v,h2,h3,h4,h5⟩:=np os (n+1) st1 st' l1 h1;refine ⟨fun i=>match i with | 0=>st | i+1=>s i,fun i=>match i with | 0=>v1 | i+1=>v i,rfl,by simpa using h3,fun i u hi=>?_,fun i u hi hw=>?_⟩
     ·cases i with
      | zero =>
        simp only [List.getElem?_cons_zero,Option.some.injEq] at hi
        subst hi;simpa [h2] using hs
      | succ i=>exact h4 i u (by simpa using hi)
     ·cases i with
      | zero =>
        simp only [List.getElem?_cons_zero,Option.some.injEq] at hi
        subst hi;simpa [h2] using ho hw
      | succ i =>
        obtain ⟨q1,q2⟩:=h5 i u (by simpa using hi) hw
        rw [show n+(i+1)=n+1+i from by omega]
        exact ⟨fun hh=>hl _ (q1 hh),fun hh=>hl _ (q2 hh)⟩
   split at h
   ·rename_i hw
    exact mk _ undef l h (.inl ⟨hw,rfl,rfl⟩) (fun x hx=>hx) (fun hw'=>by rw [hw] at hw'; cases hw')
   ·rename_i hw
    split at h
    ·rename_i v hp df hs
     have e1:({ st with hp:=hp,df:=df }.tput o.dst v:St).hp=hp:=by cases o.dst <;> rfl
     split at h
     ·rename_i st2 l2 hrec
      split at h
      ·rename_i hcl
       cases h;exact mk _ v _ hrec (.inr ⟨hw,hp,df,hs,rfl⟩) (fun x hx=>hx) (fun _=>⟨fun hh=>(by first | cases hh | (rw [hcl] at hh; cases hh)),fun hh=>(by first | cases hh | (rw [hcl] at hh; cases hh))⟩)
      ·rename_i hcl
       cases h;exact mk _ v l2 hrec (.inr ⟨hw,hp,df,hs,rfl⟩) (fun x hx=>.tail _ hx) (fun _=>⟨fun _=>.head _,fun hh=>(by first | cases hh | (rw [hcl] at hh; cases hh))⟩)
      ·rename_i hcl
       cases h;exact mk _ v l2 hrec (.inr ⟨hw,hp,df,hs,rfl⟩) (fun x hx=>.tail _ hx) (fun _=>⟨fun hh=>(by first | cases hh | (rw [hcl] at hh; cases hh)),fun _=>(by rw [e1]; exact .head _)⟩)
     ·cases h
    ·cases h
theorem Af:∀ {a b:Value},veq1 a b=true→a=b:=by
 intro a b h;unfold veq1 at h;split at h <;> simp_all [iG,Nat.beq_eq]
 rename_i x y; cases x; cases y; simp_all
theorem nH:∀ {a b:List Value},veqL a b=true→a=b
 | [],[],_=>rfl
 | a::asv,b::bs,h=>by
   simp only [veqL,Bool.and_eq_true] at h;rw [Af h.1,nH h.2]
 | [],_::_,h=>by simp [veqL] at h
 | _::_,[],h=>by simp [veqL] at h
theorem F1{a b:Value}(h:veq a b=true):a=b:=by
 unfold veq at h;split at h
 ·rename_i x y
  have:=nH h
  cases x; cases y; simp_all
 ·rename_i x y
  have:=nH h
  cases x; cases y; simp_all
 ·rename_i f x y g z u
  simp only [Bool.and_eq_true,Nat.beq_eq] at h;obtain ⟨⟨h1,h2⟩,h3⟩:=h;have:=nH h2
  have:=nH h3
  cases x; cases y; cases z; cases u; simp_all
 ·exact Af h
def pX(P:Program)(ops:Array Oper)(st:Nat→St)(v:Nat→Value):Prop :=
 ∀ j i oj oi,ops[j]? = some oj→ops[i]? = some oi→aWanted ops (st j) oj=true→aWanted ops (st i) oi=true→cls P oj = .read→cls P oi = .big →
   (if j<i then ((Region.before ops).getD i 0).testBit j=false else ((Region.before ops).getD j 0).testBit i=false) →
   (i≤j→opR P (st j).eval (st i).hp.get oj=some (v j))∧(j<i→opR P (st j).eval (st (i+1)).hp.get oj=some (v j))
theorem qx{P:Program}{ops:Array Oper}{j i:Nat}{oj oi:Oper}(hj:ops[j]? = some oj)(hi:ops[i]? = some oi)(rj:cls P oj = .read)(bi:cls P oi = .big)
  (hu:if j<i then ((Region.before ops).getD i 0).testBit j=false else ((Region.before ops).getD j 0).testBit i=false):(j,i)∈js P ops:=by
 unfold js;simp only [List.mem_flatMap,List.mem_filter,List.mem_map];have hj':(oj,j)∈ops.toList.zipIdx:=by rw [List.mk_mem_zipIdx_iff_getElem?]; simpa using hj
 have hi':(oi,i)∈ops.toList.zipIdx:=by rw [List.mk_mem_zipIdx_iff_getElem?]; simpa using hi
 refine ⟨(oj,j),⟨hj',by simp [DU,rj]⟩,(oi,i),⟨⟨hi',by simp [so,bi]⟩,?_⟩,rfl⟩
 dsimp only
 by_cases h:j<i
 ·rw [if_pos h] at hu ⊢; rw [hu]; rfl
 ·rw [if_neg h] at hu ⊢; rw [hu]; rfl
theorem rM{P:Program}{call:aG}{ops:Array Oper}{st0 st':St}(he:aRegion P call ops true st0=some st') :
  ∃ (st:Nat→St) (v:Nat→Value),st 0=st0∧st ops.size=st'∧(∀ i o,ops[i]? = some o→iI P call ops (st i) (st (i+1)) (v i) o)∧pX P ops st v:=by
 simp only [aRegion] at he;split at he
 ·rename_i hf
  obtain ⟨s,v,h1,h2,h3⟩:=nq _ _ _ he;refine ⟨s,v,h1,by simpa using h2,fun i o hi=>h3 i o (by simpa using hi),?_⟩
  intro j i oj oi hj hi _ _ rj bi hu;have:=qx hj hi rj bi hu
  rw [hf] at this;cases this
 ·split at he
  ·rename_i st2 l hlog
   split at he
   ·rename_i hall
    cases he;obtain ⟨s,v,h1,h2,h3,h4⟩:=np _ _ _ _ _ hlog;refine ⟨s,v,h1,by simpa using h2,fun i o hi=>h3 i o (by simpa using hi),?_⟩
    intro j i oj oi hj hi wj wi rj bi hu;have hm:=qx hj hi rj bi hu
    have hp:=List.all_eq_true.1 hall _ hm
    have hr:=(h4 j oj (by simpa using hj) wj).1 rj
    have hb:=(h4 i oi (by simpa using hi) wi).2 bi
    rw [Nat.zero_add] at hr hb;unfold pairOk at hp;have dj:=List.all_eq_true.1 hp _ hr
    simp only [show Nat.beq j j=true from Nat.beq_refl j] at dj
    have hp2:=List.all_eq_true.1 dj _ hb
    simp only [show Nat.beq i i=true from Nat.beq_refl i] at hp2
    refine ⟨fun hle=>?_,fun hlt=>?_⟩
    ·rw [show Nat.ble i j=true from Nat.ble_eq_true_of_le hle] at hp2
     simp only [eE] at hp2;split at hp2
     ·rename_i u hu2; rw [hu2,F1 hp2]
     ·cases hp2
    ·rw [show Nat.ble i j=false from by
        cases hq:Nat.ble i j with
        | false=>rfl
        | true=>have:=Nat.le_of_ble_eq_true hq; omega] at hp2
     simp only [eE] at hp2;split at hp2
     ·rename_i u hu2; rw [hu2,F1 hp2]
     ·cases hp2
   ·cases he
  ·cases he
theorem iH(s:St)(d:Option Tmp)(v:Value):(s.tput d v).hp=s.hp:=by cases d <;> rfl
theorem pQ(s:St)(d:Option Tmp)(v:Value):(s.tput d v).df=s.df:=by cases d <;> rfl
section
variable (P:Program) (ops:Array Oper) (st:Nat→St) (v:Nat→Value)
def rH(i:Nat):Prop:=∃ o,ops[i]? = some o∧aWanted ops (st i) o=true∧cls P o = .big
def PA(i:Nat)(b:af):Prop:=∃ o,ops[i]? = some o∧aWanted ops (st i) o=true∧cls P o = .pure∧opP P (st i).eval (st i).hp.sz o=some (v i,some b)
end
section
variable {P:Program} {call:aG} {ops:Array Oper} {st:Nat→St} {v:Nat→Value}
theorem PA.uniq{i:Nat}{b b':af}(h:PA P ops st v i b)(h':PA P ops st v i b'):b=b':=by
 obtain ⟨o,h1,h2,h3,h4⟩:=h;obtain ⟨o',h1',h2',h3',h4'⟩:=h';rw [h1] at h1'; cases h1';rw [h4] at h4'; cases h4'; rfl
theorem PA.En{i:Nat}{b:af}(h:PA P ops st v i b):¬ rH P ops st i:=by
 rintro ⟨o',h1',h2',h3'⟩;obtain ⟨o,h1,h2,h3,h4⟩:=h;rw [h1] at h1'; cases h1';rw [h3] at h3'; cases h3'
variable (hs:∀ i o,ops[i]? = some o→iI P call ops (st i) (st (i+1)) (v i) o) (hc:ba P call)
include hs
theorem PA.next{i:Nat}{b:af}(h:PA P ops st v i b):(st (i+1)).hp=(st i).hp.push b∧(st (i+1)).df=(st i).df:=by
 obtain ⟨o,h1,h2,h3,h4⟩:=h;rcases hs i o h1 with ⟨hw,_⟩ | ⟨hw,hp,df,hst,e⟩
 ·rw [h2] at hw; cases hw
 ·unfold aStep at hst
  simp only [h3,h4] at hst;cases hst;rw [e,iH,pQ];exact ⟨rfl,rfl⟩
theorem AV{i:Nat}(hi:i<ops.size)(h1:¬ rH P ops st i)(h2:∀ b,¬ PA P ops st v i b):(st (i+1)).hp=(st i).hp∧(st (i+1)).df=(st i).df:=by
 have ho:=Array.getElem?_eq_getElem hi
 rcases hs i ops[i] ho with ⟨hw,_,e⟩ | ⟨hw,hp,df,hst,e⟩
 ·rw [e,iH,pQ]; exact ⟨rfl,rfl⟩
 ·rw [e,iH,pQ]
  unfold aStep at hst;split at hst
  ·rename_i hcl
   split at hst
   ·cases hst; exact ⟨rfl,rfl⟩
   ·rename_i v0 b hop
    cases hst;exact absurd ⟨ops[i],ho,hw,hcl,hop⟩ (h2 b)
   ·cases hst
  ·split at hst
   ·cases hst; exact ⟨rfl,rfl⟩
   ·cases hst
  ·rename_i hcl
   exact absurd ⟨ops[i],ho,hw,hcl⟩ h1
include hc in
theorem kK(h0:(st 0).hp.ok):∀ i,i≤ops.size→(st i).hp.ok
 | 0,_=>h0
 | i+1,hi=>by
   have ih:=kK h0 i (by omega)
   have ho:=Array.getElem?_eq_getElem (show i<ops.size by omega)
   rcases hs i _ ho with ⟨hw,_,e⟩ | ⟨hw,hp,df,hst,e⟩
   ·rw [e,iH]; exact ih
   ·rw [e,iH]; exact (il hc hst ih).1
include hc in
theorem dL(h0:(st 0).hp.ok){i:Nat}:∀ j,i≤j→j≤ops.size→(st i).hp.sz≤(st j).hp.sz
 | 0,hij,_=>by have:i=0:=by omega
               subst this; exact Nat.le_refl _
 | j+1,hij,hj=>by
   rcases Nat.lt_or_ge j i with h | h
   ·have:i=j+1:=by omega
    subst this; exact Nat.le_refl _
   ·refine Nat.le_trans (dL h0 j h (by omega)) ?_
    have ih:=kK hs hc h0 j (by omega)
    have ho:=Array.getElem?_eq_getElem (show j<ops.size by omega)
    rcases hs j _ ho with ⟨hw,_,e⟩ | ⟨hw,hp,df,hst,e⟩
    ·rw [e,iH]; exact Nat.le_refl _
    ·rw [e,iH]; exact (il hc hst ih).2.1
theorem quiet{c:Nat}:∀ i,c≤i→i≤ops.size→(∀ k,c≤k→k<i→¬ rH P ops st k) →
  (st c).hp.sz≤(st i).hp.sz∧(∀ b,b<(st c).hp.sz→(st i).hp.get b=(st c).hp.get b) ∧
  (∀ b,(st c).hp.sz≤b→b<(st i).hp.sz→∃ k o,c≤k∧k<i∧PA P ops st v k o∧(st k).hp.sz=b∧(st i).hp.get b=some o)∧(st i).df=(st c).df
 | 0,hci,_,_=>by
   have:c=0:=by omega
   subst this;exact ⟨Nat.le_refl _,fun _ _=>rfl,fun b h1 h2=>by omega,rfl⟩
 | i+1,hci,hi,hq=>by
   rcases Nat.lt_or_ge i c with h | h
   ·have:c=i+1:=by omega
    subst this;exact ⟨Nat.le_refl _,fun _ _=>rfl,fun b h1 h2=>by omega,rfl⟩
   ·obtain ⟨k0,k1,k2,k3⟩:=quiet i h (by omega) (fun k a b=>hq k a (by omega))
    by_cases hp:∃ b,PA P ops st v i b
    ·obtain ⟨b,hb⟩:=hp
     obtain ⟨e1,e2⟩:=hb.next hs;rw [e1,e2];refine ⟨Nat.le_trans k0 (Nat.le_succ _),fun x hx=>?_,fun x h1 h2=>?_,k3⟩
     ·rw [Hp.cy,if_neg (by omega)]; exact k1 x hx
     ·rw [Hp.cy]
      rw [Hp.jO] at h2;by_cases e:x=(st i).hp.sz
      ·rw [if_pos e]
       exact ⟨i,b,h,Nat.lt_succ_self _,hb,e.symm,rfl⟩
      ·rw [if_neg e]
       obtain ⟨k,o,q1,q2,q3⟩:=k2 x h1 (by omega)
       exact ⟨k,o,q1,by omega,q3⟩
    ·obtain ⟨e1,e2⟩:=AV hs (by omega) (hq i h (Nat.lt_succ_self _)) (fun b hb=>hp ⟨b,hb⟩)
     rw [e1,e2];refine ⟨k0,k1,fun x h1 h2=>?_,k3⟩
     obtain ⟨k,o,q1,q2,q3⟩:=k2 x h1 h2;exact ⟨k,o,q1,by omega,q3⟩
theorem nE(t:Tmp):∀ i,i≤ops.size →
  (∃ j oj,j<i∧ops[j]? = some oj∧oj.dst=some t∧(∀ j' o',j'<i→ops[j']? = some o'→o'.dst=some t→j'≤j)∧(st i).dK t=v j) ∨
  ((∀ j oj,j<i→ops[j]? = some oj→oj.dst≠some t)∧(st i).dK t=(st 0).dK t)
 | 0,_=>.inr ⟨fun j oj hj=>by omega,rfl⟩
 | i+1,hi=>by
   have ho:=Array.getElem?_eq_getElem (show i<ops.size by omega)
   have key:(st (i+1)).dK t=if (ops[i]).dst=some t then v i else (st i).dK t:=by
     rcases hs i _ ho with ⟨hw,e0,e⟩ | ⟨hw,hp,df,hst,e⟩
     ·rw [e,St.q8,e0]
     ·rw [e,St.q8]; rfl
   by_cases hd:(ops[i]).dst=some t
   ·rw [if_pos hd] at key
    exact .inl ⟨i,_,Nat.lt_succ_self _,ho,hd,fun j' o' h1 _ _=>by omega,key⟩
   ·rw [if_neg hd] at key
    rcases nE t i (by omega) with ⟨j,oj,h1,h2,h3,h4,h5⟩ | ⟨h1,h2⟩
    ·refine .inl ⟨j,oj,by omega,h2,h3,fun j' o' q1 q2 q3=>?_,key.trans h5⟩
     rcases Nat.lt_or_ge j' i with q | q
     ·exact h4 j' o' q q2 q3
     ·have:j'=i:=by omega
      subst this;rw [ho] at q2; cases q2;exact absurd q3 hd
    ·refine .inr ⟨fun j oj q1 q2 q3=>?_,key.trans h2⟩
     rcases Nat.lt_or_ge j i with q | q
     ·exact h1 j oj q q2 q3
     ·have:j=i:=by omega
      subst this;rw [ho] at q2; cases q2;exact hd q3
end
structure Safe (P:Program) (ops:Array Oper):Prop where
 after:∀ y o e,ops[y]? = some o→e∈o.after.toList→Region.binds .any e=true→e.on<y
 guard:∀ y o j w,ops[y]? = some o→o.guard=some (j,w)→j<y∧((Region.before ops).getD y 0).testBit j=true
 pair:∀ x y ox oy,ops[x]? = some ox→ops[y]? = some oy→x<y→((Region.before ops).getD y 0).testBit x=true ∨
  ((∀ d,ox.dst=some d→d∉tmpsOf ops oy)∧(∀ d,oy.dst=some d→d∉tmpsOf ops ox)∧¬ (cls P ox = .big∧cls P oy = .big))
theorem uk{P:Program}{ops:Array Oper}(h:nn P ops=true):Safe P ops:=by
 unfold nn at h;have hm:∀ y o,ops[y]? = some o→(o,y)∈ops.toList.zipIdx:=fun y o ho=>by
  rw [List.mk_mem_zipIdx_iff_getElem?]; simpa using ho
 have hy:=fun y o (ho:ops[y]? = some o)=>List.all_eq_true.1 h _ (hm y o ho)
 refine ⟨fun y o e ho he hb=>?_,fun y o j w ho hg=>?_,fun x y ox oy hx hyy hlt=>?_⟩
 ·have:=hy y o ho
  simp only [Bool.and_eq_true,List.all_eq_true,Bool.or_eq_true,Bool.not_eq_true',decide_eq_true_eq] at this;rcases this.1.1 e he with q | q
  ·rw [hb] at q; cases q
  ·exact q
 ·have:=hy y o ho
  simp only [Bool.and_eq_true,hg,decide_eq_true_eq] at this;exact this.1.2
 ·have:=hy y oy hyy
  simp only [Bool.and_eq_true] at this;have q:=List.all_eq_true.1 this.2 _ (hm x ox hx)
  simp only [Bool.or_eq_true,Bool.not_eq_true',decide_eq_false_iff_not] at q;rcases q with (q | q) | q
  ·exact absurd hlt q
  ·exact .inl q
  ·refine .inr ?_
   unfold DB at q;simp only [Bool.and_eq_true,Bool.not_eq_true',Bool.and_eq_false_iff] at q;refine ⟨fun d hd=>?_,fun d hd=>?_,fun hb=>?_⟩
   ·have:=q.1.1; rw [hd] at this; simpa using this
   ·have:=q.1.2; rw [hd] at this; simpa using this
   ·rcases q.2 with q | q
    ·simp [so,hb.1] at q
    ·simp [so,hb.2] at q
section
variable {P:Program} {call:aG} {ops:Array Oper} {st:Nat→St} {v:Nat→Value} {N:Nat} {m0:BM} {h0:HG} {w0:World}
structure Inv (P:Program) (ops:Array Oper) (st:Nat→St) (v:Nat→Value) (N:Nat) (m0:BM) (h0:HG) (w0:World) (S:Nat→Prop) (c:Nat) (m:BM) (h:HG) (w:World) (a:Act):Prop where
 dom:∀ i,S i→i<ops.size
 down:∀ j o e,S j→ops[j]? = some o→e∈o.after.toList→Region.binds .any e=true→S e.on
 bigs:∀ i,rH P ops st i→(i<c↔S i)
 last:c=0∨∃ i,c=i+1∧rH P ops st i
 cn:c≤ops.size
 hA:∀ b,b<(st c).hp.sz→h b=(st c).hp.get b
 hB:∀ b,(st ops.size).hp.sz≤b→h b=h0 b
 hC:∀ b,(st c).hp.sz≤b→b<(st ops.size).hp.sz→(∃ k o,c≤k∧PA P ops st v k o∧(st k).hp.sz=b∧h b=some o)∨((∀ k o,PA P ops st v k o→(st k).hp.sz≠b)∧h b=none)
 mat:∀ k o,PA P ops st v k o→¬ S k→m (st k).hp.sz=none∧h (st k).hp.sz=some o
 go:dR m0 (aM (st 0).hp h0) w0 m h w
 bZ:a.tmps.size=N
 tm:∀ t,(∃ j oj,S j∧ops[j]? = some oj∧oj.dst=some t∧(∀ j' o',S j'→ops[j']? = some o'→o'.dst=some t→j'≤j)∧aj m h (v j) (a.tmps.getD t undef)) ∨
  ((∀ j oj,S j→ops[j]? = some oj→oj.dst≠some t)∧aj m h ((st 0).dK t) (a.tmps.getD t undef))
 df:mu m h (st c).df a.defers
theorem PA.lt{i:Nat}{b:af}(h:PA P ops st v i b):i<ops.size:=by
 obtain ⟨o,h1,_⟩:=h;exact (Array.getElem?_eq_some_iff.1 h1).1
variable (hs:∀ i o,ops[i]? = some o→iI P call ops (st i) (st (i+1)) (v i) o) (hc:ba P call) (hk:(st 0).hp.ok) (hsafe:Safe P ops)
include hs hc hk
theorem PA.order{i k:Nat}{b:af}(h:PA P ops st v i b)(hik:i<k)(hkn:k≤ops.size):(st i).hp.sz<(st k).hp.sz:=by
 have e:=(h.next hs).1
 have:=dL hs hc hk k (show i+1≤k by omega) hkn
 rw [e,Hp.jO] at this;omega
theorem PA.inj{i k:Nat}{b b':af}(h:PA P ops st v i b)(h':PA P ops st v k b')(e:(st i).hp.sz=(st k).hp.sz):i=k:=by
 rcases Nat.lt_trichotomy i k with q | q | q
 ·have:=h.order hs hc hk q (Nat.le_of_lt h'.lt); omega
 ·exact q
 ·have:=h'.order hs hc hk q (Nat.le_of_lt h.lt); omega
theorem Inv.agree{S:Nat→Prop}{c:Nat}{m:BM}{h:HG}{w:World}{a:Act}(I:Inv P ops st v N m0 h0 w0 S c m h w a){i:Nat}(hci:c≤i)(hi:i≤ops.size)(hq:∀ k,c≤k→k<i→¬ rH P ops st k) :
  ∀ b,b<(st i).hp.sz→h b=(st i).hp.get b:=by
 intro b hb;obtain ⟨k0,k1,k2,k3⟩:=quiet hs i hci hi hq;rcases Nat.lt_or_ge b (st c).hp.sz with q | q
 ·rw [I.hA b q,k1 b q]
 ·obtain ⟨k,o,q1,q2,q3,q4,q5⟩:=k2 b q hb
  have hbn:b<(st ops.size).hp.sz:=Nat.lt_of_lt_of_le hb (dL hs hc hk ops.size hi (Nat.le_refl _))
  rcases I.hC b q hbn with ⟨k',o',r1,r2,r3,r4⟩ | ⟨r1,_⟩
  ·have:=r2.inj hs hc hk q3 (r3.trans q4.symm)
   subst this;rw [r4,q5,r2.uniq q3]
  ·exact absurd q4 (r1 k o q3)
theorem Inv.fresh{S:Nat→Prop}{c:Nat}{m:BM}{h:HG}{w:World}{a:Act}(I:Inv P ops st v N m0 h0 w0 S c m h w a){i:Nat}(hci:c≤i)(hi:rH P ops st i) :
  ∀ b,(st i).hp.sz≤b→b<(st (i+1)).hp.sz→h b=none:=by
 intro b h1 h2;obtain ⟨o,ho,_,_⟩:=id hi;have hin:i<ops.size:=(Array.getElem?_eq_some_iff.1 ho).1
 have hcs:(st c).hp.sz≤b:=Nat.le_trans (dL hs hc hk i hci (by omega)) h1
 have hbn:b<(st ops.size).hp.sz:=Nat.lt_of_lt_of_le h2 (dL hs hc hk ops.size (by omega) (Nat.le_refl _))
 rcases I.hC b hcs hbn with ⟨k,o',r1,r2,r3,r4⟩ | ⟨_,r2⟩
 ·exfalso
  rcases Nat.lt_trichotomy k i with q | q | q
  ·have:=r2.order hs hc hk q (by omega); omega
  ·subst q; exact r2.En hi
  ·have:=dL hs hc hk k (show i+1≤k by omega) (Nat.le_of_lt r2.lt); omega
 ·exact r2
omit hs hc hk in
include hsafe in
theorem Inv.I5{S:Nat→Prop}{c:Nat}{m:BM}{h:HG}{w:World}{a:Act}(I:Inv P ops st v N m0 h0 w0 S c m h w a):∀ (n y x:Nat),y<n→S y→((Region.before ops).getD y 0).testBit x=true→S x
 | 0,y,x,hn,_,_=>by omega
 | n+1,y,x,hn,hy,hb=>by
   have ho:=Array.getElem?_eq_getElem (I.dom y hy)
   obtain ⟨e,h1,h2,h3⟩:=oB ho hb;have hlt:=hsafe.after y _ e ho h1 h2
   have hS:=I.down y _ e hy ho h1 h2
   rcases h3 with rfl | h3
   ·exact hS
   ·exact Inv.I5 I n e.on x (by omega) hS h3
structure Am (P:Program) (ops:Array Oper) (st:Nat→St) (S:Nat→Prop) (i:Nat) (o:Oper):Prop where
 new:¬ S i
 get:ops[i]? = some o
 pre:∀ e∈o.after.toList,Region.binds .any e=true→S e.on
omit hs hc hk in
include hsafe in
theorem Am.I5{S:Nat→Prop}{c:Nat}{m:BM}{h:HG}{w:World}{a:Act}(I:Inv P ops st v N m0 h0 w0 S c m h w a){i:Nat}{o:Oper}(n:Am P ops st S i o){x:Nat}(hb:((Region.before ops).getD i 0).testBit x=true):S x:=by
 obtain ⟨e,h1,h2,h3⟩:=oB n.get hb;rcases h3 with rfl | h3
 ·exact n.pre e h1 h2
 ·exact I.I5 hsafe _ e.on x (Nat.lt_succ_self _) (n.pre e h1 h2) h3
omit hs hc hk in
include hsafe in
theorem Am.nI{S:Nat→Prop}{c:Nat}{m:BM}{h:HG}{w:World}{a:Act}(I:Inv P ops st v N m0 h0 w0 S c m h w a){i:Nat}{o:Oper}(n:Am P ops st S i o){t:Tmp}(ht:t∈tmpsOf ops o){x:Nat}{ox:Oper}(hx:ops[x]? = some ox)(hd:ox.dst=some t) :
  (x<i→S x)∧(S x→x<i):=by
 refine ⟨fun hlt=>?_,fun hS=>?_⟩
 ·rcases hsafe.pair x i ox o hx n.get hlt with q | q
  ·exact n.I5 hsafe I q
  ·exact absurd ht (q.1 t hd)
 ·rcases Nat.lt_trichotomy x i with q | q | q
  ·exact q
  ·subst q; exact absurd hS n.new
  ·rcases hsafe.pair i x o ox n.get hx q with r | r
   ·exact absurd (I.I5 hsafe _ x i (Nat.lt_succ_self _) hS r) n.new
   ·exact absurd ht (r.2.1 t hd)
omit hc hk in
include hsafe in
theorem Am.names{S:Nat→Prop}{c:Nat}{m:BM}{h:HG}{w:World}{a:Act}(I:Inv P ops st v N m0 h0 w0 S c m h w a){i:Nat}{o:Oper}(n:Am P ops st S i o){t:Tmp}(ht:t∈tmpsOf ops o) :
  aj m h ((st i).dK t) (a.tmps.getD t undef):=by
 have hin:i<ops.size:=(Array.getElem?_eq_some_iff.1 n.get).1
 rcases I.tm t with ⟨j,oj,h1,h2,h3,h4,h5⟩ | ⟨h1,h2⟩
 ·rcases nE hs t i (by omega) with ⟨j',oj',q1,q2,q3,q4,q5⟩ | ⟨q1,q2⟩
  ·have a1:=h4 j' oj' ((n.nI hsafe I ht q2 q3).1 q1) q2 q3
   have a2:=q4 j oj ((n.nI hsafe I ht h2 h3).2 h1) h2 h3
   have:j'=j:=by omega
   subst this;rw [q5]; exact h5
  ·exact absurd h3 (q1 j oj ((n.nI hsafe I ht h2 h3).2 h1) h2)
 ·rcases nE hs t i (by omega) with ⟨j',oj',q1,q2,q3,q4,q5⟩ | ⟨q1,q2⟩
  ·exact absurd q3 (h1 j' oj' ((n.nI hsafe I ht q2 q3).1 q1) q2)
  ·rw [q2]; exact h2
omit hs hc hk in
theorem Am.tmps{S:Nat→Prop}{c:Nat}{m:BM}{h:HG}{w:World}{a:Act}(hsafe:Safe P ops)(I:Inv P ops st v N m0 h0 w0 S c m h w a){i:Nat}{o:Oper}(n:Am P ops st S i o){m':BM}{h':HG}(l:Le m h m' h'){v':Value}(hv:aj m' h' (v i) v'){ds':List Deferred}(hb:∀ x,o.dst=some x→x<N) :
  ∀ t,(∃ j oj,(S j∨j=i)∧ops[j]? = some oj∧oj.dst=some t∧(∀ j' o',(S j'∨j'=i)→ops[j']? = some o'→o'.dst=some t→j'≤j)∧aj m' h' (v j) ((({ a with defers:=ds' }:Act).put o.dst v').tmps.getD t undef)) ∨
    ((∀ j oj,(S j∨j=i)→ops[j]? = some oj→oj.dst≠some t)∧aj m' h' ((st 0).dK t) ((({ a with defers:=ds' }:Act).put o.dst v').tmps.getD t undef)):=by
 intro t;rw [Act.vF _ _ _ _ (fun x hx=>by have:=hb x hx; rw [← I.bZ] at this; exact this)]
 by_cases hd:o.dst=some t
 ·rw [if_pos hd]
  refine .inl ⟨i,o,.inr rfl,n.get,hd,fun j' o' h1 h2 h3=>?_,hv⟩
  rcases h1 with h1 | rfl
  ·exact Nat.le_of_lt ((n.nI hsafe I (t:=t) (by simp [tmpsOf,hd]) h2 h3).2 h1)
  ·exact Nat.le_refl _
 ·rw [if_neg hd]
  rcases I.tm t with ⟨j,oj,h1,h2,h3,h4,h5⟩ | ⟨h1,h2⟩
  ·refine .inl ⟨j,oj,.inl h1,h2,h3,fun j' o' q1 q2 q3=>?_,h5.mono l⟩
   rcases q1 with q1 | rfl
   ·exact h4 j' o' q1 q2 q3
   ·rw [n.get] at q2; cases q2; exact absurd q3 hd
  ·refine .inr ⟨fun j oj q1 q2 q3=>?_,h2.mono l⟩
   rcases q1 with q1 | rfl
   ·exact h1 j oj q1 q2 q3
   ·rw [n.get] at q2; cases q2; exact hd q3
end
section
variable {P:Program} {call:aG} {ops:Array Oper} {st:Nat→St} {v:Nat→Value} {N:Nat} {m0:BM} {h0:HG} {w0:World}
variable (hs:∀ i o,ops[i]? = some o→iI P call ops (st i) (st (i+1)) (v i) o) (hc:ba P call) (hk:(st 0).hp.ok) (hsafe:Safe P ops)
include hs hc hk hsafe
omit hs hc hk hsafe in
theorem Am.still{S:Nat→Prop}{c:Nat}{m:BM}{h:HG}{w:World}{a:Act}(hsafe:Safe P ops)(I:Inv P ops st v N m0 h0 w0 S c m h w a){i:Nat}{o:Oper}(n:Am P ops st S i o)
  (hb:¬ rH P ops st i) (hp:∀ b,¬ PA P ops st v i b) (hd:∀ x,o.dst=some x→x<N) {v':Value} (hv:aj m h (v i) v') :
  Inv P ops st v N m0 h0 w0 (fun x=>S x∨x=i) c m h w (a.put o.dst v'):=by
 refine ⟨?_,?_,?_,I.last,I.cn,I.hA,I.hB,I.hC,?_,I.go,by rw [Act.ny]; exact I.bZ,?_,by rw [Act.gR]; exact I.df⟩
 ·rintro x (hx | rfl)
  ·exact I.dom x hx
  ·exact (Array.getElem?_eq_some_iff.1 n.get).1
 ·rintro j u ed (hj | rfl) hu he hbd
  ·exact .inl (I.down j u ed hj hu he hbd)
  ·rw [n.get] at hu; cases hu
   exact .inl (n.pre ed he hbd)
 ·intro x hx
  refine ⟨fun q=>.inl ((I.bigs x hx).1 q),fun q=>?_⟩
  rcases q with q | rfl
  ·exact (I.bigs x hx).2 q
  ·exact absurd hx hb
 ·intro k u hu hS
  exact I.mat k u hu (fun q=>hS (.inl q))
 ·exact n.tmps (ds':=a.defers) hsafe I (Le.refl _ _) hv hd
theorem Am.step{S:Nat→Prop}{c:Nat}{m:BM}{h:HG}{w:World}{a:Act}(hf:pX P ops st v)(h0f:∀ b,(st 0).hp.sz≤b→b<(st ops.size).hp.sz→h0 b=none)
  (I:Inv P ops st v N m0 h0 w0 S c m h w a) {i:Nat} {o:Oper} (n:Am P ops st S i o) (hok:rU N o=true) {K:Act→World→Prop} {Q:Exit→Act→World→Prop}
  (hK:∀ c' m' h' w' a',Inv P ops st v N m0 h0 w0 (fun x=>S x∨x=i) c' m' h' w' a'→K a' w'):wpOp P ops Q i K a w:=by
 obtain ⟨hb,hop⟩:=wv hok;have hin:i<ops.size:=(Array.getElem?_eq_some_iff.1 n.get).1
 have hnames:∀ t,t∈tmpsOf ops o→aj m h ((st i).dK t) (a.tmps.getD t undef):=fun t ht=>n.names hs hsafe I ht
 have hwant:Region.wanted o (yielded ops a.tmps)=aWanted ops (st i) o:=rD fun j wd t hg ht=>hnames t (by simp [tmpsOf,hg,ht])
 have hops:∀ x∈o.op.operands.toList,aj m h ((st i).eval x) (a.eval x):=by
  intro x hx;have hx':=hop x hx
  cases x with
  | tmp t=>exact hnames t (by
     unfold tmpsOf;simp only [List.mem_append];exact .inl (.inr (List.mem_filterMap.2 ⟨.tmp t,hx,rfl⟩)))
  | const u=>exact aj.plain hx'
  | global g=>cases hx'
  | func f=>exact aj.fn f
 unfold wpOp;rw [n.get];simp only [hwant];rcases hs i o n.get with ⟨hw,hv,_⟩ | ⟨hw,hp',df',hst,e⟩
 ·
  rw [hw];simp only [Bool.false_eq_true,if_false];refine hK c m h w _ (n.still hsafe I ?_ ?_ hb (by rw [hv]; exact aj.undef))
  ·rintro ⟨o',q1,q2,_⟩; rw [n.get] at q1; cases q1; rw [hw] at q2; cases q2
  ·rintro b ⟨o',q1,q2,_⟩; rw [n.get] at q1; cases q1; rw [hw] at q2; cases q2
 ·rw [hw]
  simp only [if_true];refine .inl ?_
  have hst0:=hst
  unfold aStep at hst;split at hst
  ·rename_i hcl
   have hnb:¬ rH P ops st i:=by rintro ⟨o',q1,_,q3⟩; rw [n.get] at q1; cases q1; rw [hcl] at q3; cases q3
   split at hst
   ·
    rename_i v0 hopp;cases hst;obtain ⟨v',h1,h2⟩:r8 P m h w (st i).hp.sz none (v i) _:=lf hopp hops;unfold Oper.wp;rw [h1,Oper.upon_value];refine hK c m h w _ (n.still hsafe I hnb ?_ hb h2)
    rintro b ⟨o',q1,q2,q3,q4⟩; rw [n.get] at q1; cases q1; rw [hopp] at q4; cases q4
   ·
    rename_i v0 b hopp;cases hst;have hPA:PA P ops st v i b:=⟨o,n.get,hw,hcl,hopp⟩
    obtain ⟨hm0,hh0⟩:=I.mat i b hPA n.new;obtain ⟨v',obj,E,h1,h2,h3⟩:r8 P m h w (st i).hp.sz (some b) (v i) _:=lf hopp hops;have hupd:bS h (st i).hp.sz b=h:=by
      funext x; unfold bS; split
      ·rename_i e; rw [e,hh0]
      ·rfl
    rw [hupd] at h2;have h0s:aM (st 0).hp h0 (st i).hp.sz=none:=by
      have q1:=dL hs hc hk i (Nat.zero_le _) (Nat.le_of_lt hin)
      have q2:=hPA.order hs hc hk hin (Nat.le_refl _)
      unfold aM; rw [if_neg (by omega)]
      exact h0f _ q1 q2
    obtain ⟨g,l⟩:=M3 I.go hh0 hm0 h0s h3;unfold Oper.wp;rw [h1,Oper.upon_value];refine hK c (da m (st i).hp.sz (w.heap.size,0,E)) h _ _ ⟨?_,?_,?_,I.last,I.cn,I.hA,I.hB,I.hC,?_,g,by rw [Act.ny]; exact I.bZ,n.tmps (ds':=a.defers) hsafe I l h2 hb,by rw [Act.gR]; exact I.df.mono l⟩
    ·rintro x (hx | rfl)
     ·exact I.dom x hx
     ·exact hin
    ·rintro j u ed (hj | rfl) hu he hbd
     ·exact .inl (I.down j u ed hj hu he hbd)
     ·rw [n.get] at hu; cases hu
      exact .inl (n.pre ed he hbd)
    ·intro x hx
     refine ⟨fun q=>.inl ((I.bigs x hx).1 q),fun q=>?_⟩
     rcases q with q | rfl
     ·exact (I.bigs x hx).2 q
     ·exact absurd hx hnb
    ·intro k u hu hS
     obtain ⟨r1,r2⟩:=I.mat k u hu (fun q=>hS (.inl q))
     refine ⟨?_,r2⟩
     have hne:(st k).hp.sz≠(st i).hp.sz:=fun e=>hS (.inr (hu.inj hs hc hk hPA e))
     unfold da; rw [if_neg hne]; exact r1
   ·cases hst
  ·
   rename_i hcl;have hnb:¬ rH P ops st i:=by rintro ⟨o',q1,_,q3⟩; rw [n.get] at q1; cases q1; rw [hcl] at q3; cases q3
   have hnp:∀ b,¬ PA P ops st v i b:=by rintro b ⟨o',q1,_,q3,_⟩; rw [n.get] at q1; cases q1; rw [hcl] at q3; cases q3
   split at hst
   ·rename_i v0 hopr
    cases hst;have hok':∀ k,k≤ops.size→(st k).hp.ok:=kK hs hc hk
    have sub:∀ k,c≤k→k≤ops.size→(∀ x,c≤x→x<k→¬ rH P ops st x)→Sub (st k).hp.get h:=by
      intro k h1 h2 h3 b ob hbo;rw [I.agree hs hc hk h1 h2 h3 b ((hok' k h2).lt hbo)];exact hbo
    have hread:opR P (st i).eval h o=some (v i):=by
      by_cases hci:c≤i
      ·by_cases hex:∃ k,c≤k∧k<i∧rH P ops st k
       ·
        obtain ⟨k,r1,r2,r3,r4⟩:∃ k,c≤k∧k<i∧rH P ops st k∧∀ x,c≤x→x<k→¬ rH P ops st x:=by
          obtain ⟨k,r1,r2,r3⟩:=hex;have:∀ d k,k<d→c≤k→k<i→rH P ops st k→∃ k,c≤k∧k<i∧rH P ops st k∧∀ x,c≤x→x<k→¬ rH P ops st x:=by
            intro d;induction d with
            | zero=>intro k hk; omega
            | succ d ih =>
              intro k hkd h1 h2 h3;by_cases hx:∃ x,c≤x∧x<k∧rH P ops st x
              ·obtain ⟨x,x1,x2,x3⟩:=hx
               exact ih x (by omega) x1 (by omega) x3
              ·exact ⟨k,h1,h2,h3,fun x x1 x2 x3=>hx ⟨x,x1,x2,x3⟩⟩
          exact this _ k (Nat.lt_succ_self _) r1 r2 r3
        obtain ⟨ok,ho1,ho2,ho3⟩:=id r3;have hnS:¬ S k:=fun q=>by have:=(I.bigs k r3).2 q; omega
        have hun:((Region.before ops).getD i 0).testBit k=false:=by
          cases hq:((Region.before ops).getD i 0).testBit k with
          | false=>rfl
          | true=>exact absurd (n.I5 hsafe I hq) hnS
        have:=(hf i k o ok n.get ho1 hw ho2 hcl ho3 (by rw [if_neg (by omega)]; exact hun)).1 (by omega)
        exact ng (sub k r1 (by omega) r4) this
       ·exact ng (sub i hci (Nat.le_of_lt hin) (fun x x1 x2 x3=>hex ⟨x,x1,x2,x3⟩)) hopr
      ·
       rcases I.last with hl | ⟨k,hl,hkb⟩
       ·omega
       ·obtain ⟨ok,ho1,ho2,ho3⟩:=id hkb
        have hSk:S k:=(I.bigs k hkb).1 (by omega)
        have hik:i<k:=by
          rcases Nat.lt_or_ge i k with q | q
          ·exact q
          ·have:i=k:=by omega
           subst this; exact absurd hkb hnb
        have hun:((Region.before ops).getD k 0).testBit i=false:=by
          cases hq:((Region.before ops).getD k 0).testBit i with
          | false=>rfl
          | true=>exact absurd (I.I5 hsafe _ k i (Nat.lt_succ_self _) hSk hq) n.new
        have:=(hf i k o ok n.get ho1 hw ho2 hcl ho3 (by rw [if_pos hik]; exact hun)).2 hik
        rw [← hl] at this;exact ng (sub c (Nat.le_refl _) I.cn (fun x x1 x2=>by omega)) this
    obtain ⟨v',h1,h2⟩:=sA I.go.sim hread hops;unfold Oper.wp;rw [h1,Oper.upon_value];exact hK c m h w _ (n.still hsafe I hnb hnp hb h2)
   ·cases hst
  ·
   rename_i hcl;have hbig:rH P ops st i:=⟨o,n.get,hw,hcl⟩
   have hci:c≤i:=by
     rcases Nat.lt_or_ge i c with q | q
     ·exact absurd ((I.bigs i hbig).1 q) n.new
     ·exact q
   have hq:∀ k,c≤k→k<i→¬ rH P ops st k:=by
     intro k h1 h2 hkb;obtain ⟨ok,ho1,ho2,ho3⟩:=id hkb;rcases hsafe.pair k i ok o ho1 n.get h2 with q | q
     ·have:=(I.bigs k hkb).2 (n.I5 hsafe I q); omega
     ·exact q.2.2 ⟨ho3,hcl⟩
   have hag:=I.agree hs hc hk hci (Nat.le_of_lt hin) hq
   have hfr:=I.fresh hs hc hk hci hbig
   have hovr:aM (st i).hp h=h:=Ex hag
   have hdf:(st i).df=(st c).df:=(quiet hs i hci (Nat.le_of_lt hin) hq).2.2.2
   obtain ⟨k1,k2,k3⟩:=il hc hst0 (kK hs hc hk i (Nat.le_of_lt hin));have e1:(st (i+1)).hp=hp':=by rw [e,iH]
   have e2:(st (i+1)).df=df':=by rw [e,pQ]
   rw [e1] at hfr;refine k3 m h w a hfr (by rw [hovr]; exact I.go.sim) (by rw [hovr]; exact hops) (by rw [hovr,hdf]; exact I.df) K Q ?_
   intro m' w' v' ds' g hv hd;rw [hovr] at g;rw [← e1] at g hv hd;have hszn:(st (i+1)).hp.sz≤(st ops.size).hp.sz:=dL hs hc hk ops.size (by omega) (Nat.le_refl _)
   refine hK (i+1) m' (aM (st (i+1)).hp h) w' _ ⟨?_,?_,?_,.inr ⟨i,rfl,hbig⟩,by omega,?_,?_,?_,?_,I.go.trans g,by rw [Act.ny]; exact I.bZ,n.tmps hsafe I g.le hv hb,by rw [Act.gR,e2]; exact hd⟩
   ·rintro x (hx | rfl)
    ·exact I.dom x hx
    ·exact hin
   ·rintro j u ed (hj | rfl) hu he hbd
    ·exact .inl (I.down j u ed hj hu he hbd)
    ·rw [n.get] at hu; cases hu
     exact .inl (n.pre ed he hbd)
   ·intro x hx
    refine ⟨fun q=>?_,fun q=>?_⟩
    ·by_cases e:x=i
     ·exact .inr e
     ·refine .inl ((I.bigs x hx).1 ?_)
      rcases Nat.lt_or_ge x c with r | r
      ·exact r
      ·exact absurd hx (hq x r (by omega))
    ·rcases q with q | rfl
     ·have:=(I.bigs x hx).2 q; omega
     ·exact Nat.lt_succ_self _
   ·intro b hbb; unfold aM; rw [if_pos hbb]
   ·intro b hbb
    unfold aM; rw [if_neg (by omega)]
    exact I.hB b hbb
   ·intro b hb1 hb2
    have hcb:(st c).hp.sz≤b:=Nat.le_trans (dL hs hc hk (i+1) (by omega) (by omega)) hb1
    have hov:aM (st (i+1)).hp h b=h b:=by unfold aM; rw [if_neg (by omega)]
    rw [hov];rcases I.hC b hcb hb2 with ⟨k,u,r1,r2,r3,r4⟩ | r
    ·refine .inl ⟨k,u,?_,r2,r3,r4⟩
     rcases Nat.lt_trichotomy k i with q | q | q
     ·have:=r2.order hs hc hk q (Nat.le_of_lt hin)
      rw [← e1] at k2; omega
     ·subst q; exact absurd hbig r2.En
     ·exact q
    ·exact .inr r
   ·intro k u hu hS
    obtain ⟨r1,r2⟩:=I.mat k u hu (fun q=>hS (.inl q))
    exact ⟨g.un _ _ r2 r1,g.idle _ _ r2 r1⟩
theorem As(hf:pX P ops st v)(h0f:∀ b,(st 0).hp.sz≤b→b<(st ops.size).hp.sz→h0 b=none)(hok:∀ (i:Nat) (o:Oper),ops[i]? = some o→rU N o=true){Q:Exit→Act→World→Prop}
  (hQ:∀ m' w' a',dR m0 (aM (st 0).hp h0) w0 m' (aM (st ops.size).hp h0) w'→Rel N m' h0 w' (st ops.size) a'→Q .normal a' w') :
  ∀ (fuel:Nat) (listed:Array Bool) (S:Nat→Prop) (c:Nat) (m:BM) (h:HG) (w:World) (a:Act),listed.size=ops.size→(∀ i,S i↔listed.getD i false=true) →
    (listed.toList.filter (! ·)).length=fuel→Inv P ops st v N m0 h0 w0 S c m h w a→wpAny P .any ops Q fuel listed a w:=by
 have hend:∀ (listed:Array Bool) (S:Nat→Prop) (c:Nat) (m:BM) (h:HG) (w:World) (a:Act),listed.size=ops.size→(∀ i,S i↔listed.getD i false=true) →
    Inv P ops st v N m0 h0 w0 S c m h w a→Region.ready .any ops listed = []→Q .normal a w:=by
  intro listed S c m h w a hl hS I hr;have hall:∀ d i,i<d→i<ops.size→S i:=by
    intro d;induction d with
    | zero=>intro i hi; omega
    | succ d ih =>
      intro i hi hin;by_cases hSi:S i
      ·exact hSi
      ·exfalso
       have:i∈Region.ready .any ops listed:=by
         rw [mem_ready];refine ⟨?_,ops[i],Array.getElem?_eq_getElem hin,fun e he hb=>?_⟩
         ·have h1:listed.getD i false=false:=by
             cases hq:listed.getD i false with
             | false=>rfl
             | true=>exact absurd ((hS i).2 hq) hSi
          have hil:i<listed.size:=by omega
          simp only [Array.getD_eq_getD_getElem?,Array.getElem?_eq_getElem hil,Option.getD_some] at h1 ⊢
          exact h1
         ·have hlt:=hsafe.after i _ e (Array.getElem?_eq_getElem hin) (Array.mem_toList_iff.2 he) hb
          exact (hS e.on).1 (ih e.on (by omega) (by omega))
       rw [hr] at this; cases this
  have hSall:∀ i,i<ops.size→S i:=fun i hi=>hall _ i (Nat.lt_succ_self _) hi
  have hq:∀ k,c≤k→k<ops.size→¬ rH P ops st k:=fun k h1 h2 hb=>by
    have:=(I.bigs k hb).2 (hSall k h2); omega
  have hag:=I.agree hs hc hk I.cn (Nat.le_refl _) hq
  have hh:aM (st ops.size).hp h0=h:=by
    funext b; unfold aM
    split
    ·rename_i hb; exact (hag b hb).symm
    ·rename_i hb; exact (I.hB b (by omega)).symm
  have hdf:(st ops.size).df=(st c).df:=(quiet hs ops.size I.cn (Nat.le_refl _) hq).2.2.2
  refine hQ m w a (by rw [hh]; exact I.go) ⟨by rw [hh]; exact I.go.sim,⟨I.bZ,fun t=>?_⟩,by rw [hh,hdf]; exact I.df⟩
  rw [hh];rcases I.tm t with ⟨j,oj,h1,h2,h3,h4,h5⟩ | ⟨h1,h2⟩
  ·rcases nE hs t ops.size (Nat.le_refl _) with ⟨j',oj',q1,q2,q3,q4,q5⟩ | ⟨q1,q2⟩
   ·have a1:=h4 j' oj' (hSall j' q1) q2 q3
    have a2:=q4 j oj (I.dom j h1) h2 h3
    have:j'=j:=by omega
    subst this;rw [q5]; exact h5
   ·exact absurd h3 (q1 j oj (I.dom j h1) h2)
  ·rcases nE hs t ops.size (Nat.le_refl _) with ⟨j',oj',q1,q2,q3,q4,q5⟩ | ⟨q1,q2⟩
   ·exact absurd q3 (h1 j' oj' (hSall j' q1) q2)
   ·rw [q2]; exact h2
 intro fuel;induction fuel with
 | zero =>
   intro listed S c m h w a hl hS hn I;have hr:Region.ready .any ops listed = []:=by
     apply List.eq_nil_iff_forall_not_mem.2
     intro i hi;rw [mem_ready] at hi;obtain ⟨h1,o,ho,_⟩:=hi;have hin:i<listed.size:=by rw [hl]; exact (Array.getElem?_eq_some_iff.1 ho).1
     simp only [Array.getD_eq_getD_getElem?,Array.getElem?_eq_getElem hin,Option.getD_some] at h1
     have:listed[i]∈listed.toList.filter (! ·):=List.mem_filter.2 ⟨by simp,by rw [h1]; rfl⟩
     rw [List.eq_nil_of_length_eq_zero hn] at this;cases this
   exact ⟨hr,hend listed S c m h w a hl hS I hr⟩
 | succ fuel ih =>
   intro listed S c m h w a hl hS hn I;refine ⟨hend listed S c m h w a hl hS I,fun i hi=>?_⟩
   rw [mem_ready] at hi;obtain ⟨h1,o,ho,hpre⟩:=hi;have hin:i<listed.size:=by rw [hl]; exact (Array.getElem?_eq_some_iff.1 ho).1
   have h1':listed[i]=false:=by
     simpa only [Array.getD_eq_getD_getElem?,Array.getElem?_eq_getElem hin,Option.getD_some] using h1
   have hnew:¬ S i:=fun q=>by
     have:=(hS i).1 q
     simp only [Array.getD_eq_getD_getElem?,Array.getElem?_eq_getElem hin,Option.getD_some,h1'] at this
     cases this
   have n:Am P ops st S i o:=⟨hnew,ho,fun e he hb=>(hS e.on).2 (hpre e (Array.mem_toList_iff.1 he) hb)⟩
   refine n.step hs hc hk hsafe hf h0f I (hok i o ho) ?_
   intro c' m' h' w' a' I';refine ih _ _ c' m' h' w' a' (by simp [hl]) ?_ ?_ I'
   ·intro x
    by_cases e:x=i
    ·subst e; simp [hin]
    ·rw [getD_set_ne false (Ne.symm e)]
     simp [e,hS x]
   ·have hset:(listed.setIfInBounds i true).toList=listed.toList.set i true:=by simp
    rw [hset];have key:∀ (l:List Bool) (i:Nat),l[i]? = some false→((l.set i true).filter (! ·)).length+1=(l.filter (! ·)).length:=by
      intro l;induction l with
      | nil=>intro i hi; simp at hi
      | cons b l ih =>
        intro i hi;cases i with
        | zero=>simp at hi; subst hi; simp
        | succ i =>
          have:=ih i (by simpa using hi)
          cases b <;> simp at this ⊢ <;> omega
    have:=key listed.toList i (by rw [Array.getElem?_toList,Array.getElem?_eq_getElem hin,h1'])
    omega
end
open Classical in
noncomputable def ahead(P:Program)(ops:Array Oper)(st:Nat→St)(v:Nat→Value)(h0:HG):HG:=fun b =>
 if b<(st 0).hp.sz then (st 0).hp.get b else if h:∃ k o,PA P ops st v k o∧(st k).hp.sz=b then some h.choose_spec.choose else h0 b
theorem wJ{P:Program}{call:aG}(hc:ba P call)(hm:P.follows .mixedOrders=true){ops:Array Oper}{n id:Nat}{st0 st':St}(hok:ops.toList.all (rU n)=true)(hsafe:nn P ops=true)(he:aRegion P call ops true st0=some st')(hk:st0.hp.ok) :
  lT P n id ops true st0 st':=by
 obtain ⟨st,v,e0,en,hs,hf⟩:=rM he;subst e0;subst en;have hok':∀ i o,ops[i]? = some o→rU n o=true:=fun i o ho=>List.all_eq_true.1 hok o (List.mem_of_getElem? (by simpa using ho))
 refine ⟨kK hs hc hk _ (Nat.le_refl _),dL hs hc hk _ (Nat.zero_le _) (Nat.le_refl _),fun m0 h0 w a hfr r Q hQ=>?_⟩
 refine wp_region_any hm ?_
 have hS:=uk hsafe
 have hPAlt:∀ k o,PA P ops st v k o→(st 0).hp.sz≤(st k).hp.sz∧(st k).hp.sz<(st ops.size).hp.sz:=fun k o hp =>
  ⟨dL hs hc hk k (Nat.zero_le _) (Nat.le_of_lt hp.lt),hp.order hs hc hk hp.lt (Nat.le_refl _)⟩
 have hah:∀ k o,PA P ops st v k o→ahead P ops st v h0 (st k).hp.sz=some o:=by
  intro k o hp;unfold ahead;have hex:∃ k' o',PA P ops st v k' o'∧(st k').hp.sz=(st k).hp.sz:=⟨k,o,hp,rfl⟩
  rw [if_neg (by have:=hPAlt k o hp; omega),dif_pos hex]
  obtain ⟨q1,q2⟩:=hex.choose_spec.choose_spec;have:=q1.inj hs hc hk hp q2
  congr 1
  generalize hg:hex.choose_spec.choose=o' at q1 ⊢;rw [this] at q1;exact q1.uniq hp
 have hext:∀ b o,aM (st 0).hp h0 b=some o→ahead P ops st v h0 b=some o:=by
  intro b o hb;unfold aM at hb;unfold ahead;split at hb
  ·rename_i hlt; rw [if_pos hlt]; exact hb
  ·rename_i hlt
   rw [if_neg hlt,dif_neg ?_]
   ·exact hb
   ·rintro ⟨k,o',hp,hsz⟩
    have:=hPAlt k o' hp
    rw [hfr b (by omega) (by omega)] at hb
    cases hb
 have hmn:∀ b x,m0 b=some x→∃ o,aM (st 0).hp h0 b=some o:=fun b x hx=>by
  obtain ⟨o,ho,_⟩:=r.sim.dom b x hx; exact ⟨o,ho⟩
 have hsame:∀ b x,m0 b=some x→ahead P ops st v h0 b=aM (st 0).hp h0 b:=fun b x hx=>by
  obtain ⟨o,ho⟩:=hmn b x hx;rw [ho,hext b o ho]
 have hle:Le m0 (aM (st 0).hp h0) m0 (ahead P ops st v h0):=⟨fun b hb=>hext b _ hb,fun b x hx=>.inr hx⟩
 have hgo:dR m0 (aM (st 0).hp h0) w m0 (ahead P ops st v h0) { w with drawn:=w.drawn+1 }:=by
  refine ⟨hle,⟨fun b x hx=>?_,fun b b' x x' hx hx' hr hl hxx=>?_⟩,Nat.le_refl _,fun _ _ hx=>.inl hx,fun _ _ _=>rfl,fun _ _ _ hm=>hm,fun b o hb _=>hext b o hb,fun b o hb=>⟨o,hext b o hb⟩,fun b x hx hr=>?_,rfl,⟨rfl,fun _=>Nat.le_succ _⟩,rfl⟩
  ·obtain ⟨o,ho,hb⟩:=r.sim.dom b x hx
   exact ⟨o,hext b o ho,hb.mono hle rfl⟩
  ·refine r.sim.inj b b' x x' hx hx' ?_ ?_ hxx
   ·unfold rw? at hr ⊢; rwa [hsame b x hx] at hr
   ·unfold aV at hl ⊢; rwa [hsame b' x' hx'] at hl
  ·unfold rw? at hr ⊢; rwa [hsame b x hx] at hr
 refine As hs hc hk hS hf hfr hok' (m0:=m0) (w0:=w) hQ ops.size (Array.replicate ops.size false) (fun _=>False) 0 m0 (ahead P ops st v h0) _ a (by simp) ?_ ?_ ?_
 ·intro i
  constructor
  ·intro q; cases q
  ·intro q
   by_cases hi:i<ops.size <;> simp [hi] at q
 ·simp
 ·refine ⟨fun i q=>q.elim,fun j o e q=>q.elim,fun i _=>⟨fun q=>absurd q (Nat.not_lt_zero _),fun q=>q.elim⟩,.inl rfl,Nat.zero_le _,?_,?_,?_,?_,hgo,r.tm.size,?_,r.df.mono hle⟩
  ·intro b hb; unfold ahead; rw [if_pos hb]
  ·intro b hb
   have h1:=dL hs hc hk ops.size (Nat.zero_le _) (Nat.le_refl _)
   unfold ahead;rw [if_neg (by omega),dif_neg ?_]
   rintro ⟨k,o,hp,hsz⟩;have:=hPAlt k o hp; omega
  ·intro b h1 h2
   by_cases hex:∃ k o,PA P ops st v k o∧(st k).hp.sz=b
   ·obtain ⟨k,o,hp,hsz⟩:=hex
    exact .inl ⟨k,o,Nat.zero_le _,hp,hsz,by rw [← hsz]; exact hah k o hp⟩
   ·refine .inr ⟨fun k o hp hsz=>hex ⟨k,o,hp,hsz⟩,?_⟩
    unfold ahead;rw [if_neg (by omega),dif_neg hex]
    exact hfr b h1 h2
  ·intro k o hp _
   refine ⟨?_,hah k o hp⟩
   cases hq:m0 (st k).hp.sz with
   | none=>rfl
   | some x =>
     obtain ⟨o',ho'⟩:=hmn _ x hq;have:=hPAlt k o hp
     unfold aM at ho';rw [if_neg (by omega),hfr _ this.1 this.2] at ho'
     cases ho'
  ·intro t
   exact .inr ⟨fun j oj q=>q.elim,(r.tm.mono hle).tm t⟩
section
variable {P:Program} {call:aG}
theorem uo(hc:ba P call)(hm:P.follows .mixedOrders=true){ops:Array Oper}{n id:Nat}{draw:Bool}{st st':St}(hok:ops.toList.all (rU n)=true)(hs:draw=true→nn P ops=true)
  (he:aRegion P call ops draw st=some st') (hk:st.hp.ok):lT P n id ops draw st st':=by
 cases draw with
 | false=>exact um hc hok he hk
 | true=>exact wJ hc hm hok (hs rfl) he hk
def Ends(P:Program)(N:Nat)(m:BM)(h:HG)(w:World)(st:St)(e:Exit)(st':St):Exit→Act→World→Prop :=
 fun e' a' w'=>e'=e∧∃ m',dR m (aM st.hp h) w m' (aM st'.hp h) w'∧Rel N m' h w' st' a'
def Xy(P:Program)(n:Nat)(c:Code)(Q:Exit→Act→World→Prop)(a:Act)(w:World):Prop :=
 match c with
 | .loop b=>Code.rounds P b Q n a w
 | c=>c.wp P Q a w
theorem eS{n:Nat}{c:Code}{Q:Exit→Act→World→Prop}{a:Act}{w:World}(h:Xy P n c Q a w):c.wp P Q a w:=by
 cases c <;> first | exact h | exact wp_loop_rounds n h
def A7:Exit→Prop
 | .normal | .ret | .exit _=>True
 | _=>False
def BF(P:Program)(N n:Nat)(c:Code)(st:St)(e:Exit)(st':St):Prop :=
 A7 e∧st'.hp.ok∧st.hp.sz≤st'.hp.sz∧∀ (m:BM) (h:HG) (w:World) (a:Act),(∀ b,st.hp.sz≤b→b<st'.hp.sz→h b=none)→Rel N m h w st a→Xy P n c (Ends P N m h w st e st') a w
theorem Ends.trans{N:Nat}{m m1:BM}{h:HG}{w w1:World}{st st1 st':St}{e:Exit}(g:dR m (aM st.hp h) w m1 (aM st1.hp h) w1){e':Exit}{a':Act}{w':World}(q:Ends P N m1 h w1 st1 e st' e' a' w'):Ends P N m h w st e st' e' a' w':=by
 obtain ⟨q1,m',q2,q3⟩:=q;exact ⟨q1,m',g.trans q2,q3⟩
theorem oR{c:Code}{Q Q':Exit→Act→World→Prop}(hq:∀ e a w,Q e a w→Q' e a w):∀ n a w,Code.rounds P c Q n a w→Code.rounds P c Q' n a w
 | 0,_,_,h=>h.elim
 | n+1,a,w,h=>by
   rw [rounds_succ] at h ⊢;refine wp_mono h fun e a' w' q=>?_
   cases e with
   | normal=>exact oR hq n a' w' q
   | _=>exact hq _ _ _ q
theorem bK(hc:ba P call)(hm:P.follows .mixedOrders=true){N:Nat}:∀ (n:Nat) (c:Code) (st:St) (e:Exit) (st':St),exec P call n c st=some (e,st')→codeSafe P N c=true→st.hp.ok→BF P N n c st e st'
 | 0,c,st,e,st',he,_,_=>by cases he
 | n+1,c,st,e,st',he,hs,hk=>by
   cases c with
   | skip =>
     cases he;exact ⟨trivial,hk,Nat.le_refl _,fun m h w a hf r=>wp_skip ⟨rfl,m,dR.refl r.sim,r⟩⟩
   | label l =>
     cases he;exact ⟨trivial,hk,Nat.le_refl _,fun m h w a hf r=>wp_label ⟨rfl,m,dR.refl r.sim,r⟩⟩
   | region id ops draw =>
     simp only [exec] at he;split at he
     ·rename_i st1 hr
      cases he;simp only [codeSafe,Bool.and_eq_true,Bool.or_eq_true,Bool.not_eq_true'] at hs;obtain ⟨k1,k2,k3⟩:=uo (id:=id) hc hm hs.1 (fun hd=>by rcases hs.2 with q | q; rw [hd] at q; cases q; exact q) hr hk
      exact ⟨trivial,k1,k2,fun m h w a hf r=>k3 m h w a hf r _ fun m' w' a' g r'=>⟨rfl,m',g,r'⟩⟩
     ·cases he
   | seq x y =>
     simp only [exec] at he;simp only [codeSafe,Bool.and_eq_true] at hs;split at he
     ·rename_i st1 hx
      obtain ⟨_,k1,k2,k3⟩:=bK hc hm n x st .normal st1 hx hs.1 hk;obtain ⟨j0,j1,j2,j3⟩:=bK hc hm n y st1 e st' he hs.2 k1;refine ⟨j0,j1,Nat.le_trans k2 j2,fun m h w a hf r=>wp_seq ?_⟩
      refine wp_mono (eS (k3 m h w a (fun b h1 h2=>hf b h1 (Nat.lt_of_lt_of_le h2 j2)) r)) fun e' a' w' q=>?_
      obtain ⟨rfl,m',g,r'⟩:=q;exact wp_mono (eS (j3 m' h w' a' (fun b h1 h2=>hf b (Nat.le_trans k2 h1) h2) r')) fun e2 a2 w2 q2=>Ends.trans g q2
     ·rename_i r hne
      obtain ⟨k0,k1,k2,k3⟩:=bK hc hm n x st e st' he hs.1 hk;refine ⟨k0,k1,k2,fun m h w a hf r=>wp_seq ?_⟩
      refine wp_mono (eS (k3 m h w a hf r)) fun e' a' w' q=>?_
      cases e' with
      | normal=>obtain ⟨rfl,_⟩:=q; exact absurd he (hne _)
      | _=>exact q
   | cond x y z =>
     simp only [exec] at he;simp only [codeSafe,Bool.and_eq_true] at hs;split at he
     ·rename_i hx
      obtain ⟨k0,k1,k2,k3⟩:=bK hc hm n y st e st' he hs.1.2 hk;refine ⟨k0,k1,k2,fun m h w a hf r=>wp_cond_true ?_ (eS (k3 m h w a hf r))⟩
      have:=r.tm.eval hs.1.1
      rw [hx] at this;exact this.of_bool
     ·rename_i hx
      obtain ⟨k0,k1,k2,k3⟩:=bK hc hm n z st e st' he hs.2 hk;refine ⟨k0,k1,k2,fun m h w a hf r=>wp_cond_false ?_ (eS (k3 m h w a hf r))⟩
      have:=r.tm.eval hs.1.1
      rw [hx] at this;exact this.of_bool
     ·cases he
   | block id b =>
     simp only [exec] at he;simp only [codeSafe] at hs;split at he
     ·rename_i i st1 hb
      obtain ⟨k0,k1,k2,k3⟩:=bK hc hm n b st _ st1 hb hs hk;split at he
      ·rename_i hi
       cases he;have hi':i=id:=Nat.eq_of_beq_eq_true hi
       subst hi';refine ⟨trivial,k1,k2,fun m h w a hf r=>wp_block ?_⟩
       refine wp_mono (eS (k3 m h w a hf r)) fun e' a' w' q=>?_
       obtain ⟨rfl,q2⟩:=q;show (if i=i then _ else _)
       rw [if_pos rfl]; exact ⟨rfl,q2⟩
      ·rename_i hi
       cases he;have hi':i≠id:=fun q=>by rw [q,Nat.beq_refl] at hi; cases hi
       refine ⟨trivial,k1,k2,fun m h w a hf r=>wp_block ?_⟩
       refine wp_mono (eS (k3 m h w a hf r)) fun e' a' w' q=>?_
       obtain ⟨rfl,q2⟩:=q;show (if i=id then _ else _)
       rw [if_neg hi']; exact ⟨rfl,q2⟩
     ·rename_i r hne
      obtain ⟨k0,k1,k2,k3⟩:=bK hc hm n b st e st' he hs hk;refine ⟨k0,k1,k2,fun m h w a hf r=>wp_block ?_⟩
      refine wp_mono (eS (k3 m h w a hf r)) fun e' a' w' q=>?_
      cases e' with
      | exit i=>obtain ⟨rfl,_⟩:=q; exact absurd he (hne _ _)
      | _=>exact q
   | loop b =>
     simp only [exec] at he;simp only [codeSafe] at hs;split at he
     ·rename_i st1 hb
      obtain ⟨_,k1,k2,k3⟩:=bK hc hm n b st _ st1 hb hs hk;obtain ⟨j0,j1,j2,j3⟩:=bK hc hm n (.loop b) st1 e st' he (by simpa [codeSafe] using hs) k1
      refine ⟨j0,j1,Nat.le_trans k2 j2,fun m h w a hf r=>?_⟩
      show Code.rounds P b _ (n+1) a w
      rw [rounds_succ];refine wp_mono (eS (k3 m h w a (fun b h1 h2=>hf b h1 (Nat.lt_of_lt_of_le h2 j2)) r)) fun e' a' w' q=>?_
      obtain ⟨rfl,m',g,r'⟩:=q;exact oR (fun e2 a2 w2 q2=>Ends.trans g q2) n a' w' (j3 m' h w' a' (fun b h1 h2=>hf b (Nat.le_trans k2 h1) h2) r')
     ·rename_i r hne
      obtain ⟨k0,k1,k2,k3⟩:=bK hc hm n b st e st' he hs hk;refine ⟨k0,k1,k2,fun m h w a hf r=>?_⟩
      show Code.rounds P b _ (n+1) a w
      rw [rounds_succ];refine wp_mono (eS (k3 m h w a hf r)) fun e' a' w' q=>?_
      cases e' with
      | normal=>obtain ⟨rfl,_⟩:=q; exact absurd he (hne _)
      | _=>exact q
   | scope b =>
     simp only [exec] at he;simp only [codeSafe] at hs;obtain ⟨k0,k1,k2,k3⟩:=bK hc hm n b st e st' he hs hk;refine ⟨k0,k1,k2,fun m h w a hf r=>wp_scope_straight ?_⟩
     refine wp_mono (eS (k3 m h w a hf r)) fun e' a' w' q=>?_
     cases e' with
     | goto l=>obtain ⟨rfl,_⟩:=q; exact k0
     | _=>exact q
   | exit id =>
     cases he;exact ⟨trivial,hk,Nat.le_refl _,fun m h w a hf r=>wp_exit ⟨rfl,m,dR.refl r.sim,r⟩⟩
   | ret =>
     cases he;exact ⟨trivial,hk,Nat.le_refl _,fun m h w a hf r=>wp_ret ⟨rfl,m,dR.refl r.sim,r⟩⟩
   | _=>cases he
def resS(tmps:Array Value):ResultVar→Sem Value
 | .tmp t=>pure (tmps.getD t undef)
 | .cell x t=>do loadVar t (← asAddr (tmps.getD x undef))
theorem yn(fn:Func)(tmps:Array Value):results fn tmps=(do
  let vs ← fn.results.mapM (resS tmps)
  pure (if h:vs.size=1 then vs[0] else .tuple vs)):=by
 have:resS tmps=(fun
  | .tmp t=>pure (tmps.getD t undef)
  | .cell a t=>do loadVar t (← asAddr (tmps.getD a undef)):ResultVar→Sem Value):=by funext r; cases r <;> rfl
 unfold results;rw [this];congr 2
theorem uq{st:St}{a:Act}{N:Nat}{m:BM}{h:HG}{w:World}(hk:st.hp.ok)(s:cg m (aM st.hp h) w)(t:lV N m (aM st.hp h) st a){r:ResultVar}{v:Value}(he:resVar P st r=some v) :
  ∃ v',(resS a.tmps r).run P w = .ok v' w∧aj m (aM st.hp h) v v':=by
 cases r with
 | tmp x=>cases he; exact ⟨_,rfl,t.tm x⟩
 | cell x ty =>
   simp only [resVar] at he;have hx:=t.tm x
   obtain ⟨v',h1,h2⟩:=oz s (pY (bq hk h) he) hx;refine ⟨v',?_,h2⟩
   unfold aLoad at he;split at he
   ·rename_i ad hq
    rw [hq] at hx;obtain ⟨b,off,r,off',e1,e2,_⟩:=hx.fG;rw [e2] at h1;simp only [resS,e2];simpa [Instr.loadAt,Instr.sureAddr,asAddr] using h1
   ·cases he
theorem lO{st:St}{a:Act}{N:Nat}{m:BM}{h:HG}{w:World}(hk:st.hp.ok)(s:cg m (aM st.hp h) w)(t:lV N m (aM st.hp h) st a):∀ {rs:List ResultVar} {vs:List Value},resVars P st rs=some vs →
  ∃ vs':List Value,(rs.mapM (resS a.tmps)).run P w = .ok vs' w∧aD m (aM st.hp h) vs vs'
 | [],vs,he=>by cases he; exact ⟨[],rfl,.nil⟩
 | r::rs,vs,he=>by
   simp only [resVars] at he;split at he
   ·rename_i v us hv hus
    cases he;obtain ⟨v',h1,h2⟩:=uq hk s t hv;obtain ⟨us',h3,h4⟩:=lO hk s t hus;refine ⟨v'::us',?_,.cons h2 h4⟩
    rw [List.mapM_cons];simp only [Sem.run_bind,h1,Result.andThen_ok,h3,Sem.run_pure]
   ·cases he
theorem fl{fn:Func}{st:St}{a:Act}{N:Nat}{m:BM}{h:HG}{w:World}(hk:st.hp.ok)(s:cg m (aM st.hp h) w)(t:lV N m (aM st.hp h) st a){v:Value}(he:retVal P fn st=some v) :
  ∃ v',(results fn a.tmps).run P w = .ok v' w∧aj m (aM st.hp h) v v':=by
 unfold retVal at he;have key:∀ vs,resVars P st fn.results.toList=some vs→∃ vs':List Value,(results fn a.tmps).run P w = .ok (if h:vs'.toArray.size=1 then vs'.toArray[0] else .tuple vs'.toArray) w∧aD m (aM st.hp h) vs vs':=by
  intro vs hvs;obtain ⟨vs',h1,h2⟩:=lO hk s t hvs;refine ⟨vs',?_,h2⟩
  rw [yn,Array.mapM_eq_mapM_toList];simp only [Sem.run_bind,Sem.run_map];rw [h1];rfl
 split at he
 ·rename_i u hvs
  cases he;obtain ⟨vs',h1,h2⟩:=key _ hvs;obtain ⟨u',us',e,r1,r2⟩:=h2.of_cons;have:=r2.of_nil
  subst this; subst e;exact ⟨u',by simpa using h1,r1⟩
 ·rename_i vs hne hvs
  cases he;obtain ⟨vs',h1,h2⟩:=key _ hvs;refine ⟨.tuple vs'.toArray,?_,.tuple h2.toArray.1 h2.toArray.2⟩
  rw [h1];congr 1
  rw [dif_neg ?_]
  intro hl;have hlen:vs.length=1:=by have:=h2.1; simp at hl; omega
  obtain ⟨x,rfl⟩:=List.length_eq_one_iff.1 hlen;exact hne x rfl
 ·cases he
end
def aq(P:Program)(f:FuncId)(e:List Value→Hp→Option (Value×Hp)):Prop :=
 ∀ args hp v hp',e args hp=some (v,hp')→hp.ok→hp'.ok∧hp.sz≤hp'.sz ∧
   ∀ m h w args',(∀ b,hp.sz≤b→b<hp'.sz→h b=none)→cg m (aM hp h) w→aD m (aM hp h) args args'.toList →
     yQ P f args' w fun v' w'=>∃ m',dR m (aM hp h) w m' (aM hp' h) w'∧aj m' (aM hp' h) v v'
def ExtOk(P:Program)(ext:Ext):Prop :=
 ∀ f,match ext f with
   | some e=>∀ call,ba P call→aq P f (e call)
   | none=>∃ fn,P.funcs[f]? = some fn∧l5 P fn=true
theorem mu.of_nil{m:BM}{h:HG}{ds:List Deferred}(r:mu m h [] ds):ds = []:=by cases r; rfl
theorem sP:∀ (args:List Value) (i:Nat) (tr:Tr Value) (x:Nat),(tmsOf args i tr).get x=if i≤x∧x<i+args.length then args[x-i]? else tr.get x
 | [],i,tr,x=>by simp [tmsOf]; intro h1 h2; omega
 | a::asv,i,tr,x=>by
   unfold tmsOf;rw [sP asv (i+1),Tr.jv _ _ _ _ _ (Nat.lt_succ_self i)];by_cases h:x=i
   ·subst h
    rw [if_neg (by omega),if_pos rfl,if_pos (by simp)]
    simp
   ·rw [if_neg h]
    by_cases h2:i+1≤x∧x<i+1+asv.length
    ·rw [if_pos h2,if_pos (by simp; omega)]
     rw [show x-i=(x-(i+1))+1 from by omega]
     simp
    ·rw [if_neg h2,if_neg (by simp; omega)]
section
variable {P:Program} {call:aG}
theorem mG{m:BM}{h:HG}{args:List Value}{args':Array Value}{n:Nat}{hp:Hp}(r:aD m h args args'.toList)(hn:args.length≤n) :
  lV n m h ⟨tmsOf args 0 .leaf,hp,[]⟩ { tmps:=args'++Array.replicate (n-args'.size) undef,defers:=[] }:=by
 have hl:args.length=args'.size:=by simpa using r.1
 refine ⟨by simp; omega,fun t=>?_⟩
 simp only [St.dK,sP,Nat.zero_le,true_and,Nat.zero_add,Nat.sub_zero,Tr.vJ];by_cases ht:t<args.length
 ·rw [if_pos ht]
  have h1:args[t]? = some args[t]:=List.getElem?_eq_getElem ht
  have h2:args'.toList[t]? = some args'[t]:=by simp [show t<args'.size by omega]
  have:=r.2 t _ _ h1 h2
  simp only [h1,Option.getD_some,Array.getD_eq_getD_getElem?,Array.getElem?_append,show t<args'.size by omega,if_true]
  simpa [show t<args'.size by omega] using this
 ·rw [if_neg ht]
  have:(args'++Array.replicate (n-args'.size) undef).getD t undef=undef:=by
    simp only [Array.getD_eq_getD_getElem?,Array.getElem?_append,show ¬ t<args'.size by omega,if_false]
    by_cases hx:t-args'.size<n-args'.size
    ·simp [hx]
    ·simp [hx]
  rw [this];exact aj.undef
theorem gn{fn:Func}(h:l5 P fn=true):∃ c,fn.body=some c∧codeSafe P fn.ntmps c=true∧(fn.name == "runtime.NumGoroutine")=false:=by
 unfold l5 at h;split at h
 ·cases h
 ·rename_i c hc
  simp only [Bool.and_eq_true,Bool.not_eq_true'] at h;exact ⟨c,hc,h.1,h.2⟩
theorem ow(hc:ba P call)(hm:P.follows .mixedOrders=true){n:Nat}{fn:Func}{c:Code}(hb:fn.body=some c)(hs:codeSafe P fn.ntmps c=true){args:List Value}{hp:Hp}{st:St}(he:aBody P call n fn args hp=some st)(hk:hp.ok) :
  st.hp.ok∧hp.sz≤st.hp.sz∧∀ (m:BM) (h:HG) (w:World) (args':Array Value),(∀ b,hp.sz≤b→b<st.hp.sz→h b=none)→cg m (aM hp h) w→aD m (aM hp h) args args'.toList →
   c.wp P (fun e' a' w'=>(e' = .normal∨e' = .ret)∧∃ m',dR m (aM hp h) w m' (aM st.hp h) w'∧Rel fn.ntmps m' h w' st a') { tmps:=args'++Array.replicate (fn.ntmps-args'.size) undef,defers:=[] } w:=by
 unfold aBody at he;simp only [hb] at he;split at he
 ·cases he
 ·rename_i hle
  have hle':args.length≤fn.ntmps:=Nat.le_of_ble_eq_true hle
  have key:∀ e,exec P call n c ⟨tmsOf args 0 .leaf,hp,[]⟩=some (e,st)→(e = .normal∨e = .ret) →
      st.hp.ok∧hp.sz≤st.hp.sz∧∀ (m:BM) (h:HG) (w:World) (args':Array Value),(∀ b,hp.sz≤b→b<st.hp.sz→h b=none)→cg m (aM hp h) w→aD m (aM hp h) args args'.toList →
        c.wp P (fun e' a' w'=>(e' = .normal∨e' = .ret)∧∃ m',dR m (aM hp h) w m' (aM st.hp h) w'∧Rel fn.ntmps m' h w' st a') { tmps:=args'++Array.replicate (fn.ntmps-args'.size) undef,defers:=[] } w:=by
    intro e hx hee;obtain ⟨_,k1,k2,k3⟩:=bK hc hm n c _ e st hx hs hk;refine ⟨k1,k2,fun m h w args' hf s r=>?_⟩
    refine wp_mono (eS (k3 m h w _ hf ⟨s,mG r hle',.nil⟩)) fun e' a' w' q=>?_
    obtain ⟨rfl,q2⟩:=q;exact ⟨hee,q2⟩
  split at he
  ·rename_i st1 hx
   cases he;exact key _ hx (.inl rfl)
  ·rename_i st1 hx
   cases he;exact key _ hx (.inr rfl)
  ·cases he
theorem tw{ext:Ext}(hx:ExtOk P ext)(hc:ba P call)(hm:P.follows .mixedOrders=true){n:Nat}{f:FuncId}{args:List Value}{hp hp':Hp}{v:Value}(he:aPlain P ext call n f args hp=some (v,hp'))(hk:hp.ok) :
  hp'.ok∧hp.sz≤hp'.sz∧∀ (m:BM) (h:HG) (w:World) (args':Array Value),(∀ b,hp.sz≤b→b<hp'.sz→h b=none)→cg m (aM hp h) w→aD m (aM hp h) args args'.toList →
   (callFunc f args').run P w = .ok (.enter f args') w ∧
   CallsD P f args' .returning w fun e u' w'=>u' = .returning∧∃ v',e = .returned v'∧∃ m',dR m (aM hp h) w m' (aM hp' h) w':=by
 unfold aPlain at he;have hxf:=hx f
 split at he
 ·cases he
 ·rename_i hef
  rw [hef] at hxf;obtain ⟨fn,hfn,hsafe⟩:=hxf;simp only [hfn] at he;obtain ⟨c,hb,hs,hnm⟩:=gn hsafe;split at he
  ·cases he
  ·rename_i st hbd
   obtain ⟨k1,k2,k3⟩:=ow hc hm hb hs hbd hk;split at he
   ·rename_i hdf
    obtain ⟨v0,hv,e⟩:=Option.map_eq_some_iff.1 he;cases e;refine ⟨k1,k2,fun m h w args' hf s r=>⟨cC hfn (by rw [hb]; rfl) hnm,?_⟩⟩
    refine callsD_of_wp (R:=fun e w'=>∃ v',e = .returned v'∧∃ m',dR m (aM hp h) w m' (aM st.hp h) w') hfn hb ?_
    refine wp_mono (k3 m h w args' hf s r) fun e' a' w' q=>?_
    obtain ⟨q1,m',g,rl⟩:=q;have hnil:a'.defers = []:=by
      have:=rl.df
      rw [hdf] at this;exact this.of_nil
    obtain ⟨v',h1,h2⟩:=fl k1 rl.sim rl.tm hv;rcases q1 with rfl | rfl
    ·exact ⟨hnil,v',h1,v',rfl,m',g⟩
    ·exact ⟨hnil,v',h1,v',rfl,m',g⟩
   ·cases he
theorem kC{ext:Ext}(hx:ExtOk P ext)(hc:ba P call)(hm:P.follows .mixedOrders=true){n:Nat}{fn:Func}{tmps:Array Value}{R:Ending→World→Prop}:∀ (df:List (FuncId×List Value)) (hp hp':Hp),runDf (aPlain P ext call n) df hp=some hp'→hp.ok →
  hp'.ok∧hp.sz≤hp'.sz∧∀ (m:BM) (h:HG) (w:World) (ds:List Deferred),(∀ b,hp.sz≤b→b<hp'.sz→h b=none)→cg m (aM hp h) w→mu m (aM hp h) df ds →
    (∀ m' w',dR m (aM hp h) w m' (aM hp' h) w'→∃ v,(results fn tmps).run P w' = .ok v w'∧R (.returned v) w')→Leaves P fn tmps R ds .returning w
 | [],hp,hp',he,hk=>by
   cases he;refine ⟨hk,Nat.le_refl _,fun m h w ds hf s hd hR=>?_⟩
   cases hd;exact hR m w (dR.refl s)
 | (f,args)::df,hp,hp',he,hk=>by
   unfold runDf at he;split at he
   ·rename_i v dj h1
    obtain ⟨k1,k2,k3⟩:=tw hx hc hm h1 hk;obtain ⟨j1,j2,j3⟩:=kC hx hc hm df dj hp' he k1;refine ⟨j1,Nat.le_trans k2 j2,fun m h w ds hf s hd hR=>?_⟩
    cases hd with
    | cons htar hargs hrest =>
      rename_i d cap ds';obtain ⟨tar,dargs⟩:=d;simp only at htar hargs;subst htar;obtain ⟨q1,q2⟩:=k3 m h w _ (fun b h1 h2=>hf b h1 (Nat.lt_of_lt_of_le h2 j2)) s hargs
      refine leaves_cons (f:=f) (args:=dargs++cap) (by simp) q1 ?_
      refine q2.mono fun e u' w' hh=>?_
      obtain ⟨rfl,v',rfl,m',g⟩:=hh;exact j3 m' h w' ds' (fun b h1 h2=>hf b (Nat.le_trans k2 h1) h2) g.sim (hrest.mono g.le) fun m2 w2 g2=>hR m2 w2 (g.trans g2)
   ·cases he
theorem aQ{ext:Ext}(hx:ExtOk P ext)(hm:P.follows .mixedOrders=true):∀ n,ba P (aCall P ext n)
 | 0=>fun f args hp v hp' he=>by cases he
 | n+1=>fun f args hp v hp' he hk=>by
   have hc:=aQ hx hm n
   have hxf:=hx f
   simp only [aCall] at he;split at he
   ·rename_i e hef
    rw [hef] at hxf;exact hxf _ hc args hp v hp' he hk
   ·rename_i hef
    rw [hef] at hxf;obtain ⟨fn,hfn,hsafe⟩:=hxf;simp only [hfn] at he;obtain ⟨c,hb,hs,hnm⟩:=gn hsafe;split at he
    ·cases he
    ·rename_i st hbd
     obtain ⟨k1,k2,k3⟩:=ow hc hm hb hs hbd hk;split at he
     ·rename_i h' hdf
      obtain ⟨v0,hv,e⟩:=Option.map_eq_some_iff.1 he;cases e;obtain ⟨j1,j2,_⟩:=kC (fn:=fn) (tmps:=#[]) (R:=fun _ _=>True) hx hc hm st.df st.hp hp' hdf k1
      refine ⟨j1,Nat.le_trans k2 j2,fun m h w args' hf s r=>.inr ⟨cC hfn (by rw [hb]; rfl) hnm,?_⟩⟩
      refine calls_of_wp_defers hfn hb ?_
      refine wp_mono (k3 m h w args' (fun b h1 h2=>hf b h1 (Nat.lt_of_lt_of_le h2 j2)) s r) fun e' a' w' q=>?_
      obtain ⟨q1,m',g,rl⟩:=q;have hl:Leaves P fn a'.tmps (fun e w'=>∃ v',e = .returned v'∧∃ m',dR m (aM hp h) w m' (aM hp' h) w'∧aj m' (aM hp' h) v v') a'.defers .returning w':=by
        refine (kC hx hc hm st.df st.hp hp' hdf k1).2.2 m' h w' a'.defers (fun b h1 h2=>hf b (Nat.le_trans k2 h1) h2) rl.sim rl.df fun m2 w2 g2=>?_
        have t2:lV fn.ntmps m2 (aM hp' h) { st with hp:=hp' } a':=⟨rl.tm.size,fun t=>(rl.tm.tm t).mono g2.le⟩
        obtain ⟨v',h1,h2⟩:=fl (st:={ st with hp:=hp' }) j1 g2.sim t2 hv
        exact ⟨v',h1,v',rfl,m2,g.trans g2,h2⟩
      rcases q1 with rfl | rfl
      ·exact hl
      ·exact hl
     ·cases he
end
section
variable {P:Program} {w:World} {m:BM} {h:HG} {hp:Hp}
theorem gk(hk:hp.ok)(s:cg m (aM hp h) w){a:Addr}{v x':Value}(he:cellAt hp a=some v)(rx:aj m (aM hp h) (.pointer (some a)) x') :
  ∃ a' v',x' = .pointer (some a')∧w.cell? a'=some v'∧aj m (aM hp h) v v':=by
 unfold cellAt at he;obtain ⟨b,off,r,off',rfl,rfl,hh⟩:=rx.fG;split at he
 ·rename_i ty cs ro hb
  have hb':=bq hk h _ _ hb
  rcases hh with hh | ⟨δ,E,hm,rfl⟩
  ·dsimp only at hb'; rw [hb'] at hh; cases hh
  ·obtain ⟨c,fr,h1,h2,h3,h4,_⟩:=cg.row (s:=s) hb' hm
   dsimp only at h1 h2 h3 h4 he
   have hlt:off<cs.length:=(List.getElem?_eq_some_iff.1 he).1
   have hv:c[δ + off]? = some c[δ + off]:=Array.getElem?_eq_getElem (by omega)
   exact ⟨_,c[δ + off],rfl,by rw [cell_of h1]; exact hv,h4 off v _ he hv⟩
 ·cases he
theorem FT(hk:hp.ok)(s:cg m (aM hp h) w){a:Addr}{x':Value}{ty:TypeId}{cs:List Value}{v:Value}(hb:hp.get a.block=some (.cells ty cs false))(hv:cellAt hp a=some v)(rx:aj m (aM hp h) (.pointer (some a)) x'){a':Addr}(e:x' = .pointer (some a')):w.frozen? a'=false:=by
 obtain ⟨b,off,r,off',rfl,e2,hh⟩:=rx.fG;rw [e2] at e;cases e;have hb':=bq hk h _ _ hb
 rcases hh with hh | ⟨δ,E,hm,rfl⟩
 ·dsimp only at hb'; rw [hb'] at hh; cases hh
 ·obtain ⟨c,fr,h1,h2,h3,h4,h5⟩:=cg.row (s:=s) hb' hm
  dsimp only at h1 h2 h3 h4 h5
  unfold cellAt at hv;dsimp only at hb hv
  rw [hb] at hv;dsimp only at hv
  have hlt:off<cs.length:=(List.getElem?_eq_some_iff.1 hv).1
  exact kO h1 (h5.1 rfl _ (by omega))
theorem iJ(hk:hp.ok)(s:cg m (aM hp h) w){a:Addr}{v v' x':Value}{hp':Hp}(he:cellPut hp a v=some hp')(rx:aj m (aM hp h) (.pointer (some a)) x')(rv:aj m (aM hp h) v v') :
  ∃ a' u,x' = .pointer (some a')∧w.cell? a'=some u∧w.frozen? a'=false∧v'.oneCell'=true∧hp'.ok∧hp.sz=hp'.sz∧dR m (aM hp h) w m (aM hp' h) (w.setCell a' v'):=by
 unfold cellPut at he;obtain ⟨b,off,r,off',rfl,rfl,hh⟩:=rx.fG;split at he
 ·rename_i ty cs hb
  split at he
  ·rename_i hcond
   cases he;simp only [Bool.and_eq_true,decide_eq_true_eq] at hcond;have hb':=bq hk h _ _ hb
   rcases hh with hh | ⟨δ,E,hm,rfl⟩
   ·dsimp only at hb'; rw [hb'] at hh; cases hh
   ·obtain ⟨c,fr,h1,h2,h3,h4,h5⟩:=cg.row (s:=s) hb' hm
    dsimp only at h1 h2 h3 h4 h5 hb hcond hb'
    have hone:=rv.isOne hcond.2
    obtain ⟨w',g1,g2⟩:=gE (P:=default) (off:=off) s hb' hm (aD.cons rv aD.nil) (by simp [hcond.2]) (by simp; omega)
    have hv:c[δ + off]? = some c[δ + off]:=Array.getElem?_eq_getElem (by omega)
    have hcell:w.cell? ⟨r,δ + off,none⟩=some c[δ + off]:=by rw [cell_of h1]; exact hv
    have hfro:w.frozen? ⟨r,δ + off,none⟩=false:=kO h1 (h5.1 rfl _ (by omega))
    have hw:w'=w.setCell ⟨r,δ + off,none⟩ v':=by
      simp only [storeCells,dS,Nat.add_zero,Sem.run_bind,run_store _ _ _ _ _ hone,hcell,hfro,Bool.false_eq_true,if_false,Result.andThen_ok,Sem.run_pure] at g1;cases g1; rfl
    rw [hw,zV (hk.lt hb)] at g2;exact ⟨_,_,rfl,hcell,hfro,hone,hk.put _ (hk.lt hb),rfl,g2⟩
  ·cases he
 ·cases he
end
structure Row (n:String) (e:Array Value→Sem Value):Prop where
 next:Extern.allNextRows.lookup n=none
 nextE:Extern.allNextRows.lookup "" = none
 gen:Extern.allGenericRows.lookup n=none
 typed:Extern.allTypedRows.lookup n=none
 row:Extern.allRows.lookup n=some e
 name:(n == "runtime.NumGoroutine")=false
theorem Row.find{n:String}{e:Array Value→Sem Value}(r:Row n e){fn:Func}(hn:fn.name=n)(ho:fn.origin = ""):Extern.findNext fn=none∧Extern.find fn=some e∧(fn.name == "runtime.NumGoroutine")=false:=by
 refine ⟨?_,?_,by rw [hn]; exact r.name⟩
 ·simp [Extern.findNext,hn,ho,r.next,r.nextE]
 ·simp [Extern.find,hn,r.gen,r.typed,r.row]
def gG(n:String)(e:aG→List Value→Hp→Option (Value×Hp)):Prop :=
 ∀ (P:Program) (f:FuncId) (fn:Func),P.funcs[f]? = some fn→fn.name=n→fn.origin = "" → fn.body.isNone=true→∀ call,aq P f (e call)
theorem I7{m:BM}{h:HG}{x:Value}{xs':Array Value}(r:aD m h [x] xs'.toList):∃ x',xs' = #[x']∧aj m h x x':=by
 obtain ⟨b,bs',e,h1,h2⟩:=r.of_cons;have:=h2.of_nil
 subst this;exact ⟨b,by cases xs'; simp_all,h1⟩
theorem I8{m:BM}{h:HG}{x y:Value}{xs':Array Value}(r:aD m h [x,y] xs'.toList):∃ x' y',xs' = #[x',y']∧aj m h x x'∧aj m h y y':=by
 obtain ⟨b,bs',e,h1,h2⟩:=r.of_cons;obtain ⟨c,cs',e2,h3,h4⟩:=h2.of_cons;have:=h4.of_nil
 subst this; subst e2;exact ⟨b,c,by cases xs'; simp_all,h1,h3⟩
theorem I9{m:BM}{h:HG}{x y z:Value}{xs':Array Value}(r:aD m h [x,y,z] xs'.toList):∃ x' y' z',xs' = #[x',y',z']∧aj m h x x'∧aj m h y y'∧aj m h z z':=by
 obtain ⟨b,bs',e,h1,h2⟩:=r.of_cons;obtain ⟨c,cs',e2,h3,h4⟩:=h2.of_cons;obtain ⟨d,ds',e3,h5,h6⟩:=h4.of_cons;have:=h6.of_nil
 subst this; subst e3; subst e2;exact ⟨b,c,d,by cases xs'; simp_all,h1,h3,h5⟩
theorem kT{n:String}{k:IntKind}(row:Row n (Extern.Atomic.loadT (.int k))):gG n (atLoad k):=by
 intro P f fn hf hn ho hb call args hp v hp' he hk;obtain ⟨h1,h2,h3⟩:=row.find hn ho;unfold atLoad at he;split at he
 ·rename_i a _
  split at he
  ·rename_i k' q hc
   split at he
   ·rename_i e; subst e
    cases he;refine ⟨hk,Nat.le_refl _,fun m h w args' hfr s r=>.inl ?_⟩
    obtain ⟨x',rfl,rx⟩:=I7 r;obtain ⟨a',v',rfl,c1,c2⟩:=gk hk s hc rx;obtain rfl:=c2.of_int;exact ⟨_,_,run_call_load hf h3 hb h1 k' h2 c1,m,dR.refl s,.flat rfl⟩
   ·cases he
  ·cases he
 ·cases he
theorem jM{n:String}(row:Row n Extern.Atomic.storeT):gG n atStore:=by
 intro P f fn hf hn ho hb call args hp v hp' he hk;obtain ⟨h1,h2,h3⟩:=row.find hn ho;unfold atStore at he;split at he
 ·rename_i a x _
  obtain ⟨dj,hq,e⟩:=Option.map_eq_some_iff.1 he;cases e;have hk':hp'.ok∧hp.sz=hp'.sz:=by
    unfold cellPut at hq;split at hq
    ·rename_i hb2
     split at hq
     ·cases hq; exact ⟨hk.put _ (hk.lt hb2),rfl⟩
     ·cases hq
    ·cases hq
  refine ⟨hk'.1,Nat.le_of_eq hk'.2,fun m h w args' hfr s r=>.inl ?_⟩
  obtain ⟨x',y',rfl,rx,ry⟩:=I8 r;obtain ⟨a',u,rfl,c1,c2,c3,c4,c5,g⟩:=iJ hk s hq rx ry;refine ⟨.tuple #[],_,?_,m,g,aj.undef⟩
  rw [run_callFunc_extern hf h3 hb h1 h2];change (Sem.run P (do
    store (← asAddr (.pointer (some a'))) y' .atomic
    pure Extern.Atomic.none_) w).andThen _=_
  simp [asAddr,c1,c2,run_store P w a' y' .atomic c3,Result.andThen,Extern.Atomic.none_]
 ·cases he
theorem add_goal{n:String}{k:IntKind}(row:Row n (Extern.Atomic.update (Op.intArith .add) k true)):gG n (atAdd k):=by
 intro P f fn hf hn ho hb call args hp v hp' he hk;obtain ⟨h1,h2,h3⟩:=row.find hn ho;unfold atAdd at he;split at he
 ·rename_i _ a k1 d
  split at he
  ·rename_i k' q hc
   split at he
   ·rename_i e; obtain ⟨e1,e2⟩:=e; subst e1; subst e2
    obtain ⟨dj,hq,e⟩:=Option.map_eq_some_iff.1 he;cases e;have hk':hp'.ok∧hp.sz=hp'.sz:=by
      unfold cellPut at hq;split at hq
      ·rename_i hb2
       split at hq
       ·cases hq; exact ⟨hk.put _ (hk.lt hb2),rfl⟩
       ·cases hq
      ·cases hq
    refine ⟨hk'.1,Nat.le_of_eq hk'.2,fun m h w args' hfr s r=>.inl ?_⟩
    obtain ⟨x',y',rfl,rx,ry⟩:=I8 r;obtain rfl:=ry.of_int;obtain ⟨a',u,rfl,c1,c2,c3,c4,c5,g⟩:=iJ hk s hq rx (.flat rfl);obtain ⟨a2,v2,e2,d1,d2⟩:=gk hk s hc rx;cases e2;obtain rfl:=d2.of_int;exact ⟨_,_,run_call_add hf h3 hb h1 k1 h2 d1 c2 (by simp [Op.intArith,ji]),m,g,.flat rfl⟩
   ·cases he
  ·cases he
 ·cases he
theorem vm{n:String}{k:IntKind}(row:Row n (Extern.Atomic.casT (.int k))):gG n (atCas k):=by
 intro P f fn hf hn ho hb call args hp v hp' he hk;obtain ⟨h1,h2,h3⟩:=row.find hn ho;unfold atCas at he;split at he
 ·rename_i _ a k1 old k2 new
  split at he
  ·rename_i k' q hc
   split at he
   ·rename_i e; obtain ⟨e1,e2,e3⟩:=e; subst e1; subst e2; subst e3
    split at he
    ·rename_i hd
     have hqo:q=old:=of_decide_eq_true hd
     subst hqo;obtain ⟨dj,hq,e⟩:=Option.map_eq_some_iff.1 he;cases e;have hk':hp'.ok∧hp.sz=hp'.sz:=by
       unfold cellPut at hq;split at hq
       ·rename_i hb2
        split at hq
        ·cases hq; exact ⟨hk.put _ (hk.lt hb2),rfl⟩
        ·cases hq
       ·cases hq
     refine ⟨hk'.1,Nat.le_of_eq hk'.2,fun m h w args' hfr s r=>.inl ?_⟩
     obtain ⟨x',y',z',rfl,rx,ry,rz⟩:=I9 r;obtain rfl:=ry.of_int;obtain rfl:=rz.of_int;obtain ⟨a',u,rfl,c1,c2,c3,c4,c5,g⟩:=iJ hk s hq rx (.flat rfl);obtain ⟨a2,v2,e2,d1,d2⟩:=gk hk s hc rx;cases e2;obtain rfl:=d2.of_int;exact ⟨_,_,run_call_cas_hit hf h3 hb h1 _ h2 d1 c2,m,g,.flat rfl⟩
    ·rename_i ty cs hd hblk
     have hqo:¬ q=old:=of_decide_eq_false hd
     cases he;refine ⟨hk,Nat.le_refl _,fun m h w args' hfr s r=>.inl ?_⟩
     obtain ⟨x',y',z',rfl,rx,ry,rz⟩:=I9 r;obtain rfl:=ry.of_int;obtain rfl:=rz.of_int;obtain ⟨a2,v2,e2,d1,d2⟩:=gk hk s hc rx;have hfz:=FT hk s hblk hc rx e2
     subst e2;obtain rfl:=d2.of_int;exact ⟨_,_,run_call_cas_miss hf h3 hb h1 _ h2 d1 hfz hqo,m,dR.refl s,.flat rfl⟩
    ·cases he
   ·cases he
  ·cases he
 ·cases he
theorem sx{n:String}{mk:Mark}(row:Row n (fun _=>do mark mk; pure Extern.Race.none_)):gG n noneE:=by
 intro P f fn hf hn ho hb call args hp v hp' he hk;obtain ⟨h1,h2,h3⟩:=row.find hn ho;unfold noneE at he;split at he
 ·cases he
  refine ⟨hk,Nat.le_refl _,fun m h w args' hfr s r=>.inl ?_⟩
  have:args' = #[]:=by have:=r.of_nil; cases args'; simp_all
  subst this;exact ⟨_,_,run_call_mark0 hf h3 hb h1 mk h2 w,m,dR.refl s,aj.undef⟩
 ·cases he
theorem sr{n:String}{mk:Addr→Mark}(row:Row n (Extern.Race.marked mk)):gG n zI:=by
 intro P f fn hf hn ho hb call args hp v hp' he hk;obtain ⟨h1,h2,h3⟩:=row.find hn ho;unfold zI at he;split at he
 ·cases he
  refine ⟨hk,Nat.le_refl _,fun m h w args' hfr s r=>.inl ?_⟩
  obtain ⟨x',rfl,rx⟩:=I7 r;obtain ⟨b,off,r,off',_,rfl,_⟩:=rx.fG;exact ⟨_,_,run_call_marked hf h3 hb h1 mk h2 _ w,m,dR.refl s,aj.undef⟩
 ·cases he
theorem jN{P:Program}{f:FuncId}{call:aG}:aq P f (qY call):=by
 intro args hp v hp' he; cases he
theorem Cc:∀ p∈atoms,gG p.1 p.2:=by
 intro p hp;simp only [atoms,List.mem_cons,List.mem_nil_iff,or_false] at hp;rcases hp with rfl | rfl | rfl | rfl | rfl | rfl | rfl | rfl | rfl | rfl | rfl | rfl | rfl | rfl | rfl | rfl
 ·exact kT ⟨by kernel_rfl,by kernel_rfl,by kernel_rfl,by kernel_rfl,by kernel_rfl,by kernel_rfl⟩
 ·exact kT ⟨by kernel_rfl,by kernel_rfl,by kernel_rfl,by kernel_rfl,by kernel_rfl,by kernel_rfl⟩
 ·exact kT ⟨by kernel_rfl,by kernel_rfl,by kernel_rfl,by kernel_rfl,by kernel_rfl,by kernel_rfl⟩
 ·exact kT ⟨by kernel_rfl,by kernel_rfl,by kernel_rfl,by kernel_rfl,by kernel_rfl,by kernel_rfl⟩
 ·exact jM ⟨by kernel_rfl,by kernel_rfl,by kernel_rfl,by kernel_rfl,by kernel_rfl,by kernel_rfl⟩
 ·exact jM ⟨by kernel_rfl,by kernel_rfl,by kernel_rfl,by kernel_rfl,by kernel_rfl,by kernel_rfl⟩
 ·exact jM ⟨by kernel_rfl,by kernel_rfl,by kernel_rfl,by kernel_rfl,by kernel_rfl,by kernel_rfl⟩
 ·exact jM ⟨by kernel_rfl,by kernel_rfl,by kernel_rfl,by kernel_rfl,by kernel_rfl,by kernel_rfl⟩
 ·exact add_goal ⟨by kernel_rfl,by kernel_rfl,by kernel_rfl,by kernel_rfl,by kernel_rfl,by kernel_rfl⟩
 ·exact add_goal ⟨by kernel_rfl,by kernel_rfl,by kernel_rfl,by kernel_rfl,by kernel_rfl,by kernel_rfl⟩
 ·exact vm ⟨by kernel_rfl,by kernel_rfl,by kernel_rfl,by kernel_rfl,by kernel_rfl,by kernel_rfl⟩
 ·exact vm ⟨by kernel_rfl,by kernel_rfl,by kernel_rfl,by kernel_rfl,by kernel_rfl,by kernel_rfl⟩
 ·exact sx (mk:=.disable) ⟨by kernel_rfl,by kernel_rfl,by kernel_rfl,by kernel_rfl,by kernel_rfl,by kernel_rfl⟩
 ·exact sx (mk:=.enable) ⟨by kernel_rfl,by kernel_rfl,by kernel_rfl,by kernel_rfl,by kernel_rfl,by kernel_rfl⟩
 ·exact sr (mk:=.acquire) ⟨by kernel_rfl,by kernel_rfl,by kernel_rfl,by kernel_rfl,by kernel_rfl,by kernel_rfl⟩
 ·exact sr (mk:=.releaseMerge) ⟨by kernel_rfl,by kernel_rfl,by kernel_rfl,by kernel_rfl,by kernel_rfl,by kernel_rfl⟩
theorem p6{n:String}{e:aG→List Value→Hp→Option (Value×Hp)}:∀ {l:List (String×(aG→List Value→Hp→Option (Value×Hp)))},atomIn n l=some e→(n,e)∈l
 | [],h=>by cases h
 | (n',e')::l,h=>by
   unfold atomIn at h;split at h
   ·rename_i hd
    cases h;have:=of_decide_eq_true hd
    subst this;exact .head _
   ·exact .tail _ (p6 h)
theorem vv(P:Program):ExtOk P (extOf P):=by
 intro f;unfold extOf;cases hf:P.funcs[f]? with
 | none=>exact fun call _=>jN
 | some fn =>
   simp only;cases hb:fn.body with
   | none =>
     simp only;cases hd:decide (fn.origin = "") with
     | false=>exact fun call _=>jN
     | true =>
       simp only;cases ha:atomIn fn.name atoms with
       | none=>exact fun call _=>jN
       | some e=>exact fun call _=>Cc _ (p6 ha) P f fn hf rfl (of_decide_eq_true hd) (by rw [hb]; rfl) call
   | some c =>
     simp only;cases hs:l5 P fn with
     | false=>exact fun call _=>jN
     | true=>exact ⟨fn,rfl,hs⟩
end Go.Proofs.YtgeoommlmddgpaaGreat.AI
