/- thalwegref18.Downs, Ups, Next: told as links' own. -/
import Derived.Test.YtgeoommlmddgpaaXaJ
import Derived.Test.YtgeoommlmddgpaaXaE
import Derived.Test.YtgeoommlmddgpaaXaH
import Derived.Test.YtgeoommlmddgpaaXaI
set_option linter.unusedVariables false
set_option linter.unusedSimpArgs false
set_option maxRecDepth 100000
namespace Go.Proofs.Ytgeoommlmddgpaa.LtL
open Go Go.Proofs Go.Proofs.Ytgeoommlmddgpaa.AI Go.RowKit Go.Proofs.Ytgeoommlmddgpaa.Sort Go.Proofs.Ytgeoommlmddgpaa.LtA

/-! ### F19 -/
section
variable (fi : Bool) (o I : Blk) (own : ViewV) (n c k : Nat)
end
/-! ### F20 -/
section
variable (fi : Bool) (o I : Blk) (own : ViewV) (n c k : Nat)
end
/-! ### Next -/
section
variable (o I : Blk) (own : ViewV) (n c k : Nat) (z : Int)
end
end Go.Proofs.Ytgeoommlmddgpaa.LtL
namespace Go.Proofs.Ytgeoommlmddgpaa.LtL
open Go Go.Proofs Go.Proofs.Ytgeoommlmddgpaa.AI Go.RowKit Go.Proofs.Ytgeoommlmddgpaa.Sort Go.Proofs.Ytgeoommlmddgpaa.LtA

def lbx (y : Lev) : Blk := .cells 42 (lc y) false
end Go.Proofs.Ytgeoommlmddgpaa.LtL
namespace Go.Proofs.Ytgeoommlmddgpaa.LtL
open Go Go.Proofs Go.Proofs.Ytgeoommlmddgpaa.AI Go.RowKit Go.Proofs.Ytgeoommlmddgpaa.Sort Go.Proofs.Ytgeoommlmddgpaa.LtA

theorem lbx_inert (y : Lev) : inertB (lbx y) = true := rfl
theorem lbx_load {hp : Hp} {b : Nat} {y : Lev} (h : hp.get b = some (lbx y)) : aLoad Try.prog hp.get 42 (pb b 0) = some (lA y) := by
  simp only [aLoad, pb, h, lbx, aggL, sizeL]
  rfl
def zl : Lev := (0, 0, 0)
/-- What is owed, each by one of the terms. -/
macro "metc" "[" ts:term,* "]" : tactic => do
  let ts := ts.getElems
  `(tactic| (repeat' (first | exact Go.Proofs.Ytgeoommlmddgpaa.AI.Met.nil | apply Go.Proofs.Ytgeoommlmddgpaa.AI.Met.cons $[| exact $ts]*)))
set_option maxHeartbeats 1000000
end Go.Proofs.Ytgeoommlmddgpaa.LtL
