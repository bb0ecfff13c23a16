/- thalwegref18.Dir, of: their runs. -/
import Derived.Test.YtgeoommlmddgpaaXaH
import Derived.Test.YtgeoommlmddgpaaXaE
set_option linter.unusedVariables false
set_option linter.unusedSimpArgs false
set_option maxRecDepth 100000
namespace Go.Proofs.Ytgeoommlmddgpaa.LtA
open Go Go.Proofs Go.Proofs.Ytgeoommlmddgpaa.AI Go.RowKit Go.Proofs.Ytgeoommlmddgpaa.Sort Go.Proofs.Ytgeoommlmddgpaa.LtL

end Go.Proofs.Ytgeoommlmddgpaa.LtA
namespace Go.Proofs.Ytgeoommlmddgpaa.LtA
open Go Go.Proofs Go.Proofs.Ytgeoommlmddgpaa.AI Go.RowKit Go.Proofs.Ytgeoommlmddgpaa.Sort Go.Proofs.Ytgeoommlmddgpaa.LtL

/-- All but the first one that is such. -/
def rmS (y : ViewV) (p : Bool × List ViewV) (x : ViewV) : Bool × List ViewV := bif !p.1 && sameV x y then (true, p.2) else (p.1, p.2 ++ [x])
/-- Those that are left. -/
def rest (us : List ViewV) : List ViewV := (us.foldl (rmS (lowV us).1) (false, [])).2
end Go.Proofs.Ytgeoommlmddgpaa.LtA
namespace Go.Proofs.Ytgeoommlmddgpaa.LtA
open Go Go.Proofs Go.Proofs.Ytgeoommlmddgpaa.AI Go.RowKit Go.Proofs.Ytgeoommlmddgpaa.Sort Go.Proofs.Ytgeoommlmddgpaa.LtL

theorem ltT : ∀ {a b : Nat} {r : Bool}, decide (a < b) = r → (some (Value.bool (decide (Int.ofNat a < Int.ofNat b)))) = some (.bool r) := fun {a b r} h => bool_ok (by rw [← h]; exact decide_eq_decide.2 (by simp only [Int.ofNat_eq_natCast]; omega))
theorem gtT : ∀ {a b : Nat} {r : Bool}, decide (a > b) = r → (some (Value.bool (decide (Int.ofNat a > Int.ofNat b)))) = some (.bool r) := fun {a b r} h => bool_ok (by rw [← h]; exact decide_eq_decide.2 (by simp only [Int.ofNat_eq_natCast]; omega))
theorem hB_inert (y : ViewV) : inertB (hB y) = true := rfl
def zv : ViewV := ⟨0, false, 0, 0, 0, 0, 0⟩
set_option maxHeartbeats 1000000
end Go.Proofs.Ytgeoommlmddgpaa.LtA
