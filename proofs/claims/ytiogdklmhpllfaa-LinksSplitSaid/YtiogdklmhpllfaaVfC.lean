/- ViewsForget, of the given program: its runs (thalweglaw12.awake is told). -/
import Derived.Test.YtiogdklmhpllfaaVfB
import Derived.Test.YtiogdklmhpllfaaAi39
set_option linter.unusedVariables false
set_option linter.unusedSimpArgs false
set_option maxRecDepth 100000
namespace Go.Proofs.Ytiogdklmhpllfaa.LtA
open Go Go.Proofs Go.Proofs.Ytiogdklmhpllfaa.AI Go.RowKit

def orFn (g k : HeapFn) : HeapFn := fun args hp => match g args hp with
  | some r => some r
  | none => k args hp
def gAwake12 : List Value → Option Value
  | [] => some (.bool true)
  | _ => none
noncomputable def E7 (vs ms : List ViewV) : Ext := extG (extH Try.prog [(26, gAwake12), (32, g32), (31, g31), (30, g30)]) [(18, orFn (g18 vs) (g18 ms)), (29, orFn (g29 vs) (g29 ms)), (28, g28 ms ms)]
noncomputable def c7 (vs ms : List ViewV) : CallF := aCall Try.prog (E7 vs ms) 5
def p2 : Value := .pointer (some ⟨2, 0, none⟩)
section
variable (o : Blk) (vs ms : List ViewV) (n c : Nat) (lt lo lr keep : Int)
abbrev B6 : St := ⟨tmsOf [rowS 0 n c, levA lt lo lr, .int .i64 keep] 0 .leaf, heapOf [o, .dead] hp0, []⟩
end
end Go.Proofs.Ytiogdklmhpllfaa.LtA
namespace Go.Proofs.Ytiogdklmhpllfaa.LtA
open Go Go.Proofs Go.Proofs.Ytiogdklmhpllfaa.AI Go.RowKit

/-- A part of a row. -/
def slS (b off n c : Nat) : Value := .slice (some ⟨b, off, none⟩) n c
section
variable (call : CallF) (L X : List Value) (t2 : TypeId) (n c c2 i x : Nat)
end
end Go.Proofs.Ytiogdklmhpllfaa.LtA
namespace Go.Proofs.Ytiogdklmhpllfaa.LtA
open Go Go.Proofs Go.Proofs.Ytiogdklmhpllfaa.AI Go.RowKit

def gIns : HeapFn
  | [.slice (some ⟨b, 0, none⟩) n c, .int .i64 (.ofNat i), .slice (some ⟨b2, 0, none⟩) 1 c2], hp =>
    match Nat.beq c 22, Nat.beq b b2, hp.get b, hp.get b2 with
    | true, false, some (.cells ty L false), some (.cells t2 X false) =>
      match Nat.beq ty 34 && Nat.beq L.length (n * 7) && Nat.beq X.length 7 && Nat.ble i n && Nat.blt n 1000000 && L.all inert && X.all inert && L.all isOne && X.all isOne with
      | true => some (slS hp.sz 0 (n + 1) 23, heapOf ([.cells 34 (L.take (i * 7) ++ X ++ L.drop (i * 7)) false] ++ [.dead]) (killL [b, b2] hp))
      | false => none
    | _, _, _, _ => none
  | _, _ => none
section
variable {L X : List Value} {t2 : TypeId} {n c c2 i x : Nat} {W : Base}
end
end Go.Proofs.Ytiogdklmhpllfaa.LtA
namespace Go.Proofs.Ytiogdklmhpllfaa.LtA
open Go Go.Proofs Go.Proofs.Ytiogdklmhpllfaa.AI Go.RowKit

end Go.Proofs.Ytiogdklmhpllfaa.LtA
namespace Go.Proofs.Ytiogdklmhpllfaa.LtA
open Go Go.Proofs Go.Proofs.Ytiogdklmhpllfaa.AI Go.RowKit

end Go.Proofs.Ytiogdklmhpllfaa.LtA
