/- The functions that laws of heights reach: decision trees. -/
import Derived.Test.YtiogdklmhpllfaaAi25
import Derived.Test.YtiogdklmhpllfaaChecked
set_option linter.unusedVariables false
set_option linter.unusedSimpArgs false
namespace Go.Proofs.Ytiogdklmhpllfaa.LtA
open Go Go.Proofs Go.Proofs.Ytiogdklmhpllfaa.AI

theorem follows : Try.prog.follows .mixedOrders = true := by kernel_rfl

def andE (b : Bool) (r : Option Bool) : Option Bool := match b with
  | true => r
  | false => some false
theorem andE_some (b c : Bool) : andE b (some c) = some (b && c) := by cases b <;> rfl
def same23 (n1 : Bool) (a1 b1 c1 d1 e1 : Int) (n2 : Bool) (a2 b2 c2 d2 e2 : Int) : Bool := n1 == n2 && (a1 == a2 && (b1 == b2 && (c1 == c2 && (d1 == d2 && (e1 == e2 && true)))))
theorem eq23 (n1 : Bool) (a1 b1 c1 d1 e1 : Int) (n2 : Bool) (a2 b2 c2 d2 e2 : Int) :
    aBin Try.prog .eql 23 (.agg #[.bool n1, .int .i64 a1, .int .i64 b1, .int .i64 c1, .int .i64 d1, .int .i64 e1]) (.agg #[.bool n2, .int .i64 a2, .int .i64 b2, .int .i64 c2, .int .i64 d2, .int .i64 e2]) = some (.bool (same23 n1 a1 b1 c1 d1 e1 n2 a2 b2 c2 d2 e2)) := by
  have h : aBin Try.prog .eql 23 (.agg #[.bool n1, .int .i64 a1, .int .i64 b1, .int .i64 c1, .int .i64 d1, .int .i64 e1]) (.agg #[.bool n2, .int .i64 a2, .int .i64 b2, .int .i64 c2, .int .i64 d2, .int .i64 e2]) =
      (andE (n1 == n2) (andE (a1 == a2) (andE (b1 == b2) (andE (c1 == c2) (andE (d1 == d2) (andE (e1 == e2) (some true))))))).map .bool := by kernel_rfl
  rw [h]
  simp only [andE_some, same23]
  rfl
theorem eql23 (n1 : Bool) (a1 b1 c1 d1 e1 : Int) (n2 : Bool) (a2 b2 c2 d2 e2 : Int) :
    fstV ((aBin Try.prog .eql 23 (.agg #[.bool n1, .int .i64 a1, .int .i64 b1, .int .i64 c1, .int .i64 d1, .int .i64 e1]) (.agg #[.bool n2, .int .i64 a2, .int .i64 b2, .int .i64 c2, .int .i64 d2, .int .i64 e2])).map fun v => (v, none)) = some (.bool (same23 n1 a1 b1 c1 d1 e1 n2 a2 b2 c2 d2 e2)) := by
  rw [eq23]; rfl
noncomputable def E0 : Ext := extH Try.prog []
end Go.Proofs.Ytiogdklmhpllfaa.LtA
