/- The functions that laws of heights reach: decision trees. -/
import Derived.Test.YtgeoommlmddgpaaAi25
import Derived.Test.YtgeoommlmddgpaaChecked
set_option linter.unusedVariables false
set_option linter.unusedSimpArgs false
set_option maxRecDepth 100000
namespace Go.Proofs.Ytgeoommlmddgpaa.LtA
open Go Go.Proofs Go.Proofs.Ytgeoommlmddgpaa.AI

theorem follows : Try.prog.follows .mixedOrders = true := by kernel_rfl

def andE (b : Bool) (r : Option Bool) : Option Bool := match b with
  | true => r
  | false => some false
theorem andE_some (b c : Bool) : andE b (some c) = some (b && c) := by cases b <;> rfl
def same23 (n1 : Bool) (a1 b1 c1 d1 e1 : Int) (n2 : Bool) (a2 b2 c2 d2 e2 : Int) : Bool := n1 == n2 && (a1 == a2 && (b1 == b2 && (c1 == c2 && (d1 == d2 && (e1 == e2 && true)))))
theorem eq23 (n1 : Bool) (a1 b1 c1 d1 e1 : Int) (n2 : Bool) (a2 b2 c2 d2 e2 : Int) :
    aBin Try.prog .eql 24 (.agg #[.bool n1, .int .i64 a1, .int .i64 b1, .int .i64 c1, .int .i64 d1, .int .i64 e1]) (.agg #[.bool n2, .int .i64 a2, .int .i64 b2, .int .i64 c2, .int .i64 d2, .int .i64 e2]) = some (.bool (same23 n1 a1 b1 c1 d1 e1 n2 a2 b2 c2 d2 e2)) := by
  have h : aBin Try.prog .eql 24 (.agg #[.bool n1, .int .i64 a1, .int .i64 b1, .int .i64 c1, .int .i64 d1, .int .i64 e1]) (.agg #[.bool n2, .int .i64 a2, .int .i64 b2, .int .i64 c2, .int .i64 d2, .int .i64 e2]) =
      (andE (n1 == n2) (andE (a1 == a2) (andE (b1 == b2) (andE (c1 == c2) (andE (d1 == d2) (andE (e1 == e2) (some true))))))).map .bool := by kernel_rfl
  rw [h]
  simp only [andE_some, same23]
  rfl
theorem eql23 (n1 : Bool) (a1 b1 c1 d1 e1 : Int) (n2 : Bool) (a2 b2 c2 d2 e2 : Int) :
    fstV ((aBin Try.prog .eql 24 (.agg #[.bool n1, .int .i64 a1, .int .i64 b1, .int .i64 c1, .int .i64 d1, .int .i64 e1]) (.agg #[.bool n2, .int .i64 a2, .int .i64 b2, .int .i64 c2, .int .i64 d2, .int .i64 e2])).map fun v => (v, none)) = some (.bool (same23 n1 a1 b1 c1 d1 e1 n2 a2 b2 c2 d2 e2)) := by
  rw [eq23]; rfl
noncomputable def E0 : Ext := extH Try.prog []
end Go.Proofs.Ytgeoommlmddgpaa.LtA
namespace Go.Proofs.Ytgeoommlmddgpaa.LtA
open Go Go.Proofs Go.Proofs.Ytgeoommlmddgpaa.AI

theorem E0_ok : ExtOk Try.prog E0 := by unfold E0; exact extH_ok (P := Try.prog) (hs := []) HooksOk.nil
theorem arr_of {c : Array Value} {l : List Value} (h : c.toList = l) : c = l.toArray := by cases c; simp at h; rw [h]
theorem bif_and (a b : Bool) (x y : Value) : (bif a then (bif b then x else y) else y) = bif (a && b) then x else y := by cases a <;> cases b <;> rfl
theorem enumN {x : Int} (h : (x == -1) = true) : some (Value.int .i64 x) = some (.int .i64 (-1)) := by rw [eq_of_beq h]
theorem enumP {x : Int} (h : (x == 1) = true) : some (Value.int .i64 x) = some (.int .i64 1) := by rw [eq_of_beq h]
theorem enumZ {x : Int} (h3 : x = -1 ∨ x = 0 ∨ x = 1) (h : (x == -1) = false) (h' : (x == 1) = false) : some (Value.int .i64 x) = some (.int .i64 0) := by
  rcases h3 with rfl | rfl | rfl
  · cases h
  · rfl
  · cases h'

/-- thalweg/height.Check -/
def tCheck (hNull : Bool) (hTau : Int) (hOid : Int) (hR : Int) (hDelta : Int) (hId : Int) : Value := (bif hNull then (bif (decide (hId ≥ 0)) then (bif (decide (hId < 64)) then (bif (same23 (true) (hTau) (hOid) (hR) (hDelta) (hId) (true) (0) (0) (0) (0) (hId)) then (.int .i64 0) else (.int .i64 1)) else (.int .i64 1)) else (.int .i64 1)) else (bif (decide (hId ≥ 0)) then (bif (decide (hId < 64)) then (bif (decide (hTau ≥ 0)) then (bif (decide (hTau ≤ 4611686018427387903)) then (bif (decide (hOid ≥ 0)) then (bif (decide (hOid < 64)) then (bif ((Int.fdiv hR (2 ^ (min (Int.toNat 1) 64))) == 0) then (bif (decide (hDelta ≥ (-1099511627776))) then (bif (decide (hDelta ≤ 1099511627776)) then (.int .i64 0) else (.int .i64 1)) else (.int .i64 1)) else (.int .i64 1)) else (.int .i64 1)) else (.int .i64 1)) else (.int .i64 1)) else (.int .i64 1)) else (.int .i64 1)) else (.int .i64 1)))
theorem tCheck_run (hNull : Bool) (hTau : Int) (hOid : Int) (hR : Int) (hDelta : Int) (hId : Int) : ∃ hp, aCall Try.prog E0 61 52 [.agg #[.bool hNull, .int .i64 hTau, .int .i64 hOid, .int .i64 hR, .int .i64 hDelta, .int .i64 hId]] hp0 = some (tCheck hNull hTau hOid hR hDelta hId, hp) := by
  cases hNull with
  | true =>
    cases h0 : (decide (hId ≥ 0)) with
    | true =>
      cases h1 : (decide (hId < 64)) with
      | true =>
        cases h2 : (same23 (true) (hTau) (hOid) (hR) (hDelta) (hId) (true) (0) (0) (0) (0) (hId)) with
        | true =>
          have e : tCheck true hTau hOid hR hDelta hId = (.int .i64 0) := by simp only [tCheck, h0, h1, h2, cond_true, cond_false]
          rw [e]
          exact callQ_run [(6, .bool true), (10, .bool true), (20, .bool true)] (q := [(some (.bool (decide (hId ≥ 0))), .bool true), (some (.bool (decide (hId < 64))), .bool true), (some (.agg #[.bool true, .int .i64 hTau, .int .i64 hOid, .int .i64 hR, .int .i64 hDelta, .int .i64 hId]), .agg #[.bool true, .int .i64 hTau, .int .i64 hOid, .int .i64 hR, .int .i64 hDelta, .int .i64 hId]), (fstV ((aBin Try.prog .eql 24 (.agg #[.bool true, .int .i64 hTau, .int .i64 hOid, .int .i64 hR, .int .i64 hDelta, .int .i64 hId]) (.agg #[.bool true, .int .i64 0, .int .i64 0, .int .i64 0, .int .i64 0, .int .i64 hId])).map fun v => (v, none)), .bool true)]) (by kernel_rfl) (Met.cons (met_bool h0) (Met.cons (met_bool h1) (Met.cons rfl (Met.cons ((eql23 ..).trans (met_bool h2)) (Met.nil)))))
        | false =>
          have e : tCheck true hTau hOid hR hDelta hId = (.int .i64 1) := by simp only [tCheck, h0, h1, h2, cond_true, cond_false]
          rw [e]
          exact callQ_run [(6, .bool true), (10, .bool true), (20, .bool false)] (q := [(some (.bool (decide (hId ≥ 0))), .bool true), (some (.bool (decide (hId < 64))), .bool true), (some (.agg #[.bool true, .int .i64 hTau, .int .i64 hOid, .int .i64 hR, .int .i64 hDelta, .int .i64 hId]), .agg #[.bool true, .int .i64 hTau, .int .i64 hOid, .int .i64 hR, .int .i64 hDelta, .int .i64 hId]), (fstV ((aBin Try.prog .eql 24 (.agg #[.bool true, .int .i64 hTau, .int .i64 hOid, .int .i64 hR, .int .i64 hDelta, .int .i64 hId]) (.agg #[.bool true, .int .i64 0, .int .i64 0, .int .i64 0, .int .i64 0, .int .i64 hId])).map fun v => (v, none)), .bool false)]) (by kernel_rfl) (Met.cons (met_bool h0) (Met.cons (met_bool h1) (Met.cons rfl (Met.cons ((eql23 ..).trans (met_bool h2)) (Met.nil)))))
      | false =>
        have e : tCheck true hTau hOid hR hDelta hId = (.int .i64 1) := by simp only [tCheck, h0, h1, cond_true, cond_false]
        rw [e]
        exact callQ_run [(6, .bool true), (10, .bool false)] (q := [(some (.bool (decide (hId ≥ 0))), .bool true), (some (.bool (decide (hId < 64))), .bool false)]) (by kernel_rfl) (Met.cons (met_bool h0) (Met.cons (met_bool h1) (Met.nil)))
    | false =>
      have e : tCheck true hTau hOid hR hDelta hId = (.int .i64 1) := by simp only [tCheck, h0, cond_true, cond_false]
      rw [e]
      exact callQ_run [(6, .bool false)] (q := [(some (.bool (decide (hId ≥ 0))), .bool false)]) (by kernel_rfl) (Met.cons (met_bool h0) (Met.nil))
  | false =>
    cases h0 : (decide (hId ≥ 0)) with
    | true =>
      cases h1 : (decide (hId < 64)) with
      | true =>
        cases h2 : (decide (hTau ≥ 0)) with
        | true =>
          cases h3 : (decide (hTau ≤ 4611686018427387903)) with
          | true =>
            cases h4 : (decide (hOid ≥ 0)) with
            | true =>
              cases h5 : (decide (hOid < 64)) with
              | true =>
                cases h6 : ((Int.fdiv hR (2 ^ (min (Int.toNat 1) 64))) == 0) with
                | true =>
                  cases h7 : (decide (hDelta ≥ (-1099511627776))) with
                  | true =>
                    cases h8 : (decide (hDelta ≤ 1099511627776)) with
                    | true =>
                      have e : tCheck false hTau hOid hR hDelta hId = (.int .i64 0) := by simp only [tCheck, h0, h1, h2, h3, h4, h5, h6, h7, h8, cond_true, cond_false]
                      rw [e]
                      exact callQ_run [(6, .bool true), (10, .bool true), (26, .bool true), (31, .bool true), (36, .bool true), (41, .bool true), (47, .bool true), (52, .bool true), (57, .bool true)] (q := [(some (.bool (decide (hId ≥ 0))), .bool true), (some (.bool (decide (hId < 64))), .bool true), (some (.bool (decide (hTau ≥ 0))), .bool true), (some (.bool (decide (hTau ≤ 4611686018427387903))), .bool true), (some (.bool (decide (hOid ≥ 0))), .bool true), (some (.bool (decide (hOid < 64))), .bool true), (some (.bool ((Int.fdiv hR (2 ^ (min (Int.toNat 1) 64))) == 0)), .bool true), (some (.bool (decide (hDelta ≥ (-1099511627776)))), .bool true), (some (.bool (decide (hDelta ≤ 1099511627776))), .bool true)]) (by kernel_rfl) (Met.cons (met_bool h0) (Met.cons (met_bool h1) (Met.cons (met_bool h2) (Met.cons (met_bool h3) (Met.cons (met_bool h4) (Met.cons (met_bool h5) (Met.cons (met_bool h6) (Met.cons (met_bool h7) (Met.cons (met_bool h8) (Met.nil))))))))))
                    | false =>
                      have e : tCheck false hTau hOid hR hDelta hId = (.int .i64 1) := by simp only [tCheck, h0, h1, h2, h3, h4, h5, h6, h7, h8, cond_true, cond_false]
                      rw [e]
                      exact callQ_run [(6, .bool true), (10, .bool true), (26, .bool true), (31, .bool true), (36, .bool true), (41, .bool true), (47, .bool true), (52, .bool true), (57, .bool false)] (q := [(some (.bool (decide (hId ≥ 0))), .bool true), (some (.bool (decide (hId < 64))), .bool true), (some (.bool (decide (hTau ≥ 0))), .bool true), (some (.bool (decide (hTau ≤ 4611686018427387903))), .bool true), (some (.bool (decide (hOid ≥ 0))), .bool true), (some (.bool (decide (hOid < 64))), .bool true), (some (.bool ((Int.fdiv hR (2 ^ (min (Int.toNat 1) 64))) == 0)), .bool true), (some (.bool (decide (hDelta ≥ (-1099511627776)))), .bool true), (some (.bool (decide (hDelta ≤ 1099511627776))), .bool false)]) (by kernel_rfl) (Met.cons (met_bool h0) (Met.cons (met_bool h1) (Met.cons (met_bool h2) (Met.cons (met_bool h3) (Met.cons (met_bool h4) (Met.cons (met_bool h5) (Met.cons (met_bool h6) (Met.cons (met_bool h7) (Met.cons (met_bool h8) (Met.nil))))))))))
                  | false =>
                    have e : tCheck false hTau hOid hR hDelta hId = (.int .i64 1) := by simp only [tCheck, h0, h1, h2, h3, h4, h5, h6, h7, cond_true, cond_false]
                    rw [e]
                    exact callQ_run [(6, .bool true), (10, .bool true), (26, .bool true), (31, .bool true), (36, .bool true), (41, .bool true), (47, .bool true), (52, .bool false)] (q := [(some (.bool (decide (hId ≥ 0))), .bool true), (some (.bool (decide (hId < 64))), .bool true), (some (.bool (decide (hTau ≥ 0))), .bool true), (some (.bool (decide (hTau ≤ 4611686018427387903))), .bool true), (some (.bool (decide (hOid ≥ 0))), .bool true), (some (.bool (decide (hOid < 64))), .bool true), (some (.bool ((Int.fdiv hR (2 ^ (min (Int.toNat 1) 64))) == 0)), .bool true), (some (.bool (decide (hDelta ≥ (-1099511627776)))), .bool false)]) (by kernel_rfl) (Met.cons (met_bool h0) (Met.cons (met_bool h1) (Met.cons (met_bool h2) (Met.cons (met_bool h3) (Met.cons (met_bool h4) (Met.cons (met_bool h5) (Met.cons (met_bool h6) (Met.cons (met_bool h7) (Met.nil)))))))))
                | false =>
                  have e : tCheck false hTau hOid hR hDelta hId = (.int .i64 1) := by simp only [tCheck, h0, h1, h2, h3, h4, h5, h6, cond_true, cond_false]
                  rw [e]
                  exact callQ_run [(6, .bool true), (10, .bool true), (26, .bool true), (31, .bool true), (36, .bool true), (41, .bool true), (47, .bool false)] (q := [(some (.bool (decide (hId ≥ 0))), .bool true), (some (.bool (decide (hId < 64))), .bool true), (some (.bool (decide (hTau ≥ 0))), .bool true), (some (.bool (decide (hTau ≤ 4611686018427387903))), .bool true), (some (.bool (decide (hOid ≥ 0))), .bool true), (some (.bool (decide (hOid < 64))), .bool true), (some (.bool ((Int.fdiv hR (2 ^ (min (Int.toNat 1) 64))) == 0)), .bool false)]) (by kernel_rfl) (Met.cons (met_bool h0) (Met.cons (met_bool h1) (Met.cons (met_bool h2) (Met.cons (met_bool h3) (Met.cons (met_bool h4) (Met.cons (met_bool h5) (Met.cons (met_bool h6) (Met.nil))))))))
              | false =>
                have e : tCheck false hTau hOid hR hDelta hId = (.int .i64 1) := by simp only [tCheck, h0, h1, h2, h3, h4, h5, cond_true, cond_false]
                rw [e]
                exact callQ_run [(6, .bool true), (10, .bool true), (26, .bool true), (31, .bool true), (36, .bool true), (41, .bool false)] (q := [(some (.bool (decide (hId ≥ 0))), .bool true), (some (.bool (decide (hId < 64))), .bool true), (some (.bool (decide (hTau ≥ 0))), .bool true), (some (.bool (decide (hTau ≤ 4611686018427387903))), .bool true), (some (.bool (decide (hOid ≥ 0))), .bool true), (some (.bool (decide (hOid < 64))), .bool false)]) (by kernel_rfl) (Met.cons (met_bool h0) (Met.cons (met_bool h1) (Met.cons (met_bool h2) (Met.cons (met_bool h3) (Met.cons (met_bool h4) (Met.cons (met_bool h5) (Met.nil)))))))
            | false =>
              have e : tCheck false hTau hOid hR hDelta hId = (.int .i64 1) := by simp only [tCheck, h0, h1, h2, h3, h4, cond_true, cond_false]
              rw [e]
              exact callQ_run [(6, .bool true), (10, .bool true), (26, .bool true), (31, .bool true), (36, .bool false)] (q := [(some (.bool (decide (hId ≥ 0))), .bool true), (some (.bool (decide (hId < 64))), .bool true), (some (.bool (decide (hTau ≥ 0))), .bool true), (some (.bool (decide (hTau ≤ 4611686018427387903))), .bool true), (some (.bool (decide (hOid ≥ 0))), .bool false)]) (by kernel_rfl) (Met.cons (met_bool h0) (Met.cons (met_bool h1) (Met.cons (met_bool h2) (Met.cons (met_bool h3) (Met.cons (met_bool h4) (Met.nil))))))
          | false =>
            have e : tCheck false hTau hOid hR hDelta hId = (.int .i64 1) := by simp only [tCheck, h0, h1, h2, h3, cond_true, cond_false]
            rw [e]
            exact callQ_run [(6, .bool true), (10, .bool true), (26, .bool true), (31, .bool false)] (q := [(some (.bool (decide (hId ≥ 0))), .bool true), (some (.bool (decide (hId < 64))), .bool true), (some (.bool (decide (hTau ≥ 0))), .bool true), (some (.bool (decide (hTau ≤ 4611686018427387903))), .bool false)]) (by kernel_rfl) (Met.cons (met_bool h0) (Met.cons (met_bool h1) (Met.cons (met_bool h2) (Met.cons (met_bool h3) (Met.nil)))))
        | false =>
          have e : tCheck false hTau hOid hR hDelta hId = (.int .i64 1) := by simp only [tCheck, h0, h1, h2, cond_true, cond_false]
          rw [e]
          exact callQ_run [(6, .bool true), (10, .bool true), (26, .bool false)] (q := [(some (.bool (decide (hId ≥ 0))), .bool true), (some (.bool (decide (hId < 64))), .bool true), (some (.bool (decide (hTau ≥ 0))), .bool false)]) (by kernel_rfl) (Met.cons (met_bool h0) (Met.cons (met_bool h1) (Met.cons (met_bool h2) (Met.nil))))
      | false =>
        have e : tCheck false hTau hOid hR hDelta hId = (.int .i64 1) := by simp only [tCheck, h0, h1, cond_true, cond_false]
        rw [e]
        exact callQ_run [(6, .bool true), (10, .bool false)] (q := [(some (.bool (decide (hId ≥ 0))), .bool true), (some (.bool (decide (hId < 64))), .bool false)]) (by kernel_rfl) (Met.cons (met_bool h0) (Met.cons (met_bool h1) (Met.nil)))
    | false =>
      have e : tCheck false hTau hOid hR hDelta hId = (.int .i64 1) := by simp only [tCheck, h0, cond_true, cond_false]
      rw [e]
      exact callQ_run [(6, .bool false)] (q := [(some (.bool (decide (hId ≥ 0))), .bool false)]) (by kernel_rfl) (Met.cons (met_bool h0) (Met.nil))

/-- cmp.isNaN[int] -/
def tNaN (a : Int) : Value := (bif (a != a) then (.bool true) else (.bool false))
theorem tNaN_run (a : Int) : ∃ hp, aCall Try.prog E0 61 81 [.int .i64 a] hp0 = some (tNaN a, hp) := by
  cases h0 : (a != a) with
  | true =>
    have e : tNaN a = (.bool true) := by simp only [tNaN, h0, cond_true, cond_false]
    rw [e]
    exact callQ_run [(5, .bool true)] (q := [(some (.bool (a != a)), .bool true)]) (by kernel_rfl) (Met.cons (met_bool h0) (Met.nil))
  | false =>
    have e : tNaN a = (.bool false) := by simp only [tNaN, h0, cond_true, cond_false]
    rw [e]
    exact callQ_run [(5, .bool false)] (q := [(some (.bool (a != a)), .bool false)]) (by kernel_rfl) (Met.cons (met_bool h0) (Met.nil))


/-- Is it right? -/
def okH (n : Bool) (t o r d i : Int) : Bool :=
  bif n then decide (i ≥ 0) && (decide (i < 64) && same23 n t o r d i true 0 0 0 0 i)
  else decide (i ≥ 0) && (decide (i < 64) && (decide (t ≥ 0) && (decide (t ≤ 4611686018427387903) && (decide (o ≥ 0) && (decide (o < 64) && ((Int.fdiv r (2 ^ (min (Int.toNat 1) 64)) == 0) && (decide (d ≥ (-1099511627776)) && decide (d ≤ 1099511627776))))))))
def chk (n : Bool) (t o r d i : Int) : Int := bif okH n t o r d i then 0 else 1
theorem bif_int (a : Bool) (x y : Int) : Value.int .i64 (bif a then x else y) = bif a then .int .i64 x else .int .i64 y := by cases a <;> rfl
theorem tCheck_eq (n : Bool) (t o r d i : Int) : tCheck n t o r d i = .int .i64 (chk n t o r d i) := by
  unfold tCheck chk okH
  rw [bif_int]
  cases n <;> simp only [cond_true, cond_false, bif_and]
def nanI (a : Int) : Bool := a != a
theorem nanI_eq (a : Int) : nanI a = false := by simp [nanI]
theorem tNaN_eq (a : Int) : tNaN a = .bool (nanI a) := by
  unfold tNaN nanI
  cases h : (a != a) <;> rfl
def g15 : List Value → Option Value
  | [.agg c0] => match c0.toList with
    | [.bool hn, .int .i64 ht, .int .i64 ho, .int .i64 hr, .int .i64 hd, .int .i64 hi] => some (.int .i64 (chk hn ht ho hr hd hi))
    | _ => none
  | _ => none
theorem hk15 : HookGoal Try.prog 52 g15 := hook_of (ext := E0) E0_ok follows Try.func52 (by kernel_rfl) fun args v h => by
  unfold g15 at h
  split at h
  · rename_i c0
    split at h
    · rename_i ec0
      cases h
      obtain rfl := arr_of ec0
      refine ⟨rfl, rfl, ?_⟩
      obtain ⟨hp, q⟩ := tCheck_run _ _ _ _ _ _
      rw [tCheck_eq] at q
      exact ⟨_, hp, q⟩
    · cases h
  · cases h
def g75 : List Value → Option Value
  | [.int .i64 a] => some (.bool (nanI a))
  | _ => none
theorem hk75 : HookGoal Try.prog 81 g75 := hook_of (ext := E0) E0_ok follows Try.func81 (by kernel_rfl) fun args v h => by
  unfold g75 at h
  split at h
  · cases h
    refine ⟨rfl, rfl, ?_⟩
    obtain ⟨hp, q⟩ := tNaN_run _
    rw [tNaN_eq] at q
    exact ⟨_, hp, q⟩
  · cases h
noncomputable def E1 : Ext := extH Try.prog [(52, g15), (81, g75)]
theorem E1_ok : ExtOk Try.prog E1 := by unfold E1; exact extH_ok (.cons hk15 (.cons hk75 .nil))
/-- cmp.Compare[int] -/
def tCmp (a : Int) (b : Int) : Value := (bif (nanI (a)) then (bif (nanI (b)) then (.int .i64 0) else (.int .i64 (-1))) else (bif (nanI (b)) then (.int .i64 1) else (bif (decide (a < b)) then (.int .i64 (-1)) else (bif (decide (a > b)) then (.int .i64 1) else (.int .i64 0)))))
theorem tCmp_run (a : Int) (b : Int) : ∃ hp, aCall Try.prog E1 61 50 [.int .i64 a, .int .i64 b] hp0 = some (tCmp a b, hp) := by
  cases h0 : (nanI (a)) with
  | true =>
    cases h1 : (nanI (b)) with
    | true =>
      have e : tCmp a b = (.int .i64 0) := by simp only [tCmp, h0, h1, cond_true, cond_false]
      rw [e]
      exact callQ_run [(8, .bool true), (10, .bool true)] (q := [(some (.bool (nanI (a))), .bool true), (some (.bool (nanI (b))), .bool true)]) (by kernel_rfl) (Met.cons (met_bool h0) (Met.cons (met_bool h1) (Met.nil)))
    | false =>
      have e : tCmp a b = (.int .i64 (-1)) := by simp only [tCmp, h0, h1, cond_true, cond_false]
      rw [e]
      exact callQ_run [(8, .bool true), (10, .bool false)] (q := [(some (.bool (nanI (a))), .bool true), (some (.bool (nanI (b))), .bool false)]) (by kernel_rfl) (Met.cons (met_bool h0) (Met.cons (met_bool h1) (Met.nil)))
  | false =>
    cases h1 : (nanI (b)) with
    | true =>
      have e : tCmp a b = (.int .i64 1) := by simp only [tCmp, h0, h1, cond_true, cond_false]
      rw [e]
      exact callQ_run [(8, .bool false), (10, .bool true)] (q := [(some (.bool (nanI (a))), .bool false), (some (.bool (nanI (b))), .bool true)]) (by kernel_rfl) (Met.cons (met_bool h0) (Met.cons (met_bool h1) (Met.nil)))
    | false =>
      cases h2 : (decide (a < b)) with
      | true =>
        have e : tCmp a b = (.int .i64 (-1)) := by simp only [tCmp, h0, h1, h2, cond_true, cond_false]
        rw [e]
        exact callQ_run [(8, .bool false), (10, .bool false), (16, .bool true)] (q := [(some (.bool (nanI (a))), .bool false), (some (.bool (nanI (b))), .bool false), (some (.bool (decide (a < b))), .bool true)]) (by kernel_rfl) (Met.cons (met_bool h0) (Met.cons (met_bool h1) (Met.cons (met_bool h2) (Met.nil))))
      | false =>
        cases h3 : (decide (a > b)) with
        | true =>
          have e : tCmp a b = (.int .i64 1) := by simp only [tCmp, h0, h1, h2, h3, cond_true, cond_false]
          rw [e]
          exact callQ_run [(8, .bool false), (10, .bool false), (16, .bool false), (19, .bool true)] (q := [(some (.bool (nanI (a))), .bool false), (some (.bool (nanI (b))), .bool false), (some (.bool (decide (a < b))), .bool false), (some (.bool (decide (a > b))), .bool true)]) (by kernel_rfl) (Met.cons (met_bool h0) (Met.cons (met_bool h1) (Met.cons (met_bool h2) (Met.cons (met_bool h3) (Met.nil)))))
        | false =>
          have e : tCmp a b = (.int .i64 0) := by simp only [tCmp, h0, h1, h2, h3, cond_true, cond_false]
          rw [e]
          exact callQ_run [(8, .bool false), (10, .bool false), (16, .bool false), (19, .bool false)] (q := [(some (.bool (nanI (a))), .bool false), (some (.bool (nanI (b))), .bool false), (some (.bool (decide (a < b))), .bool false), (some (.bool (decide (a > b))), .bool false)]) (by kernel_rfl) (Met.cons (met_bool h0) (Met.cons (met_bool h1) (Met.cons (met_bool h2) (Met.cons (met_bool h3) (Met.nil)))))

/-- thalweg/height.known -/
def tKnown (hNull : Bool) (hTau : Int) (hOid : Int) (hR : Int) (hDelta : Int) (hId : Int) : Value := (bif hNull then (.bool false) else (bif ((chk (false) (hTau) (hOid) (hR) (hDelta) (hId)) == 0) then (.bool true) else (.bool false)))
theorem tKnown_run (hNull : Bool) (hTau : Int) (hOid : Int) (hR : Int) (hDelta : Int) (hId : Int) : ∃ hp, aCall Try.prog E1 61 51 [.agg #[.bool hNull, .int .i64 hTau, .int .i64 hOid, .int .i64 hR, .int .i64 hDelta, .int .i64 hId]] hp0 = some (tKnown hNull hTau hOid hR hDelta hId, hp) := by
  cases hNull with
  | true =>
    have e : tKnown true hTau hOid hR hDelta hId = (.bool false) := by simp only [tKnown, cond_true, cond_false]
    rw [e]
    exact callQ_run [] (q := []) (by kernel_rfl) (Met.nil)
  | false =>
    cases h0 : ((chk (false) (hTau) (hOid) (hR) (hDelta) (hId)) == 0) with
    | true =>
      have e : tKnown false hTau hOid hR hDelta hId = (.bool true) := by simp only [tKnown, h0, cond_true, cond_false]
      rw [e]
      exact callQ_run [(9, .bool true)] (q := [(some (.bool ((chk (false) (hTau) (hOid) (hR) (hDelta) (hId)) == 0)), .bool true)]) (by kernel_rfl) (Met.cons (met_bool h0) (Met.nil))
    | false =>
      have e : tKnown false hTau hOid hR hDelta hId = (.bool false) := by simp only [tKnown, h0, cond_true, cond_false]
      rw [e]
      exact callQ_run [(9, .bool false)] (q := [(some (.bool ((chk (false) (hTau) (hOid) (hR) (hDelta) (hId)) == 0)), .bool false)]) (by kernel_rfl) (Met.cons (met_bool h0) (Met.nil))

/-- thalweg/links.told -/
def tTold (hNull : Bool) (hTau : Int) (hOid : Int) (hR : Int) (hDelta : Int) (hId : Int) : Value := (bif hNull then (.bool false) else (bif ((chk (false) (hTau) (hOid) (hR) (hDelta) (hId)) == 0) then (.bool true) else (.bool false)))
theorem tTold_run (hNull : Bool) (hTau : Int) (hOid : Int) (hR : Int) (hDelta : Int) (hId : Int) : ∃ hp, aCall Try.prog E1 61 39 [.agg #[.bool hNull, .int .i64 hTau, .int .i64 hOid, .int .i64 hR, .int .i64 hDelta, .int .i64 hId]] hp0 = some (tTold hNull hTau hOid hR hDelta hId, hp) := by
  cases hNull with
  | true =>
    have e : tTold true hTau hOid hR hDelta hId = (.bool false) := by simp only [tTold, cond_true, cond_false]
    rw [e]
    exact callQ_run [] (q := []) (by kernel_rfl) (Met.nil)
  | false =>
    cases h0 : ((chk (false) (hTau) (hOid) (hR) (hDelta) (hId)) == 0) with
    | true =>
      have e : tTold false hTau hOid hR hDelta hId = (.bool true) := by simp only [tTold, h0, cond_true, cond_false]
      rw [e]
      exact callQ_run [(9, .bool true)] (q := [(some (.bool ((chk (false) (hTau) (hOid) (hR) (hDelta) (hId)) == 0)), .bool true)]) (by kernel_rfl) (Met.cons (met_bool h0) (Met.nil))
    | false =>
      have e : tTold false hTau hOid hR hDelta hId = (.bool false) := by simp only [tTold, h0, cond_true, cond_false]
      rw [e]
      exact callQ_run [(9, .bool false)] (q := [(some (.bool ((chk (false) (hTau) (hOid) (hR) (hDelta) (hId)) == 0)), .bool false)]) (by kernel_rfl) (Met.cons (met_bool h0) (Met.nil))


def cmp3 (a b : Int) : Int := bif decide (a < b) then -1 else bif decide (a > b) then 1 else 0
theorem threecmp3 (a b : Int) : cmp3 a b = -1 ∨ cmp3 a b = 0 ∨ cmp3 a b = 1 := by
  unfold cmp3
  cases decide (a < b) <;> cases decide (a > b) <;> simp
theorem tCmp_eq (a b : Int) : tCmp a b = .int .i64 (cmp3 a b) := by
  unfold tCmp cmp3
  simp only [nanI_eq, cond_false]
  cases decide (a < b) <;> cases decide (a > b) <;> rfl
def known (n : Bool) (t o r d i : Int) : Bool := !n && okH n t o r d i
theorem chk_zero (n : Bool) (t o r d i : Int) : (chk n t o r d i == 0) = okH n t o r d i := by
  unfold chk; cases okH n t o r d i <;> rfl
theorem tKnown_eq (n : Bool) (t o r d i : Int) : tKnown n t o r d i = .bool (known n t o r d i) := by
  unfold tKnown known
  cases n <;> simp only [cond_true, cond_false, chk_zero]
  · cases okH false t o r d i <;> rfl
  · rfl
theorem tTold_eq (n : Bool) (t o r d i : Int) : tTold n t o r d i = .bool (known n t o r d i) := by
  unfold tTold known
  cases n <;> simp only [cond_true, cond_false, chk_zero]
  · cases okH false t o r d i <;> rfl
  · rfl
def told (n : Bool) (t o r d i : Int) : Bool := known n t o r d i
def g54 : List Value → Option Value
  | [.int .i64 a, .int .i64 b] => some (.int .i64 (cmp3 a b))
  | _ => none
theorem hk54 : HookGoal Try.prog 50 g54 := hook_of (ext := E1) E1_ok follows Try.func50 (by kernel_rfl) fun args v h => by
  unfold g54 at h
  split at h
  · cases h
    refine ⟨rfl, rfl, ?_⟩
    obtain ⟨hp, q⟩ := tCmp_run _ _
    rw [tCmp_eq] at q
    exact ⟨_, hp, q⟩
  · cases h
def g52 : List Value → Option Value
  | [.agg c0] => match c0.toList with
    | [.bool hn, .int .i64 ht, .int .i64 ho, .int .i64 hr, .int .i64 hd, .int .i64 hi] => some (.bool (known hn ht ho hr hd hi))
    | _ => none
  | _ => none
theorem hk52 : HookGoal Try.prog 51 g52 := hook_of (ext := E1) E1_ok follows Try.func51 (by kernel_rfl) fun args v h => by
  unfold g52 at h
  split at h
  · rename_i c0
    split at h
    · rename_i ec0
      cases h
      obtain rfl := arr_of ec0
      refine ⟨rfl, rfl, ?_⟩
      obtain ⟨hp, q⟩ := tKnown_run _ _ _ _ _ _
      rw [tKnown_eq] at q
      exact ⟨_, hp, q⟩
    · cases h
  · cases h
def g51 : List Value → Option Value
  | [.agg c0] => match c0.toList with
    | [.bool hn, .int .i64 ht, .int .i64 ho, .int .i64 hr, .int .i64 hd, .int .i64 hi] => some (.bool (told hn ht ho hr hd hi))
    | _ => none
  | _ => none
theorem hk51 : HookGoal Try.prog 39 g51 := hook_of (ext := E1) E1_ok follows Try.func39 (by kernel_rfl) fun args v h => by
  unfold g51 at h
  split at h
  · rename_i c0
    split at h
    · rename_i ec0
      cases h
      obtain rfl := arr_of ec0
      refine ⟨rfl, rfl, ?_⟩
      obtain ⟨hp, q⟩ := tTold_run _ _ _ _ _ _
      rw [tTold_eq] at q
      exact ⟨_, hp, q⟩
    · cases h
  · cases h
noncomputable def E2 : Ext := extH Try.prog [(50, g54), (51, g52)]
theorem E2_ok : ExtOk Try.prog E2 := by unfold E2; exact extH_ok (.cons hk54 (.cons hk52 .nil))
/-- thalweg/height.Level -/
def tLevel (hNull : Bool) (hTau : Int) (hOid : Int) (hR : Int) (hDelta : Int) (hId : Int) : Value := (bif (known (hNull) (hTau) (hOid) (hR) (hDelta) (hId)) then (.agg #[.int .i64 hTau, .int .i64 hOid, .int .i64 hR]) else (.agg #[.int .i64 0, .int .i64 0, .int .i64 0]))
theorem tLevel_run (hNull : Bool) (hTau : Int) (hOid : Int) (hR : Int) (hDelta : Int) (hId : Int) : ∃ hp, aCall Try.prog E2 61 26 [.agg #[.bool hNull, .int .i64 hTau, .int .i64 hOid, .int .i64 hR, .int .i64 hDelta, .int .i64 hId]] hp0 = some (tLevel hNull hTau hOid hR hDelta hId, hp) := by
  cases h0 : (known (hNull) (hTau) (hOid) (hR) (hDelta) (hId)) with
  | true =>
    have e : tLevel hNull hTau hOid hR hDelta hId = (.agg #[.int .i64 hTau, .int .i64 hOid, .int .i64 hR]) := by simp only [tLevel, h0, cond_true, cond_false]
    rw [e]
    exact callQ_run [(4, .bool true)] (q := [(some (.bool (known (hNull) (hTau) (hOid) (hR) (hDelta) (hId))), .bool true)]) (by kernel_rfl) (Met.cons (met_bool h0) (Met.nil))
  | false =>
    have e : tLevel hNull hTau hOid hR hDelta hId = (.agg #[.int .i64 0, .int .i64 0, .int .i64 0]) := by simp only [tLevel, h0, cond_true, cond_false]
    rw [e]
    exact callQ_run [(4, .bool false)] (q := [(some (.bool (known (hNull) (hTau) (hOid) (hR) (hDelta) (hId))), .bool false)]) (by kernel_rfl) (Met.cons (met_bool h0) (Met.nil))

/-- thalweg/height.Order -/
def tOrder (aTau : Int) (aOid : Int) (aR : Int) (bTau : Int) (bOid : Int) (bR : Int) : Value := (bif ((cmp3 (aTau) (bTau)) == -1) then (bif ((cmp3 (aOid) (bOid)) == -1) then (bif ((cmp3 (aR) (bR)) == -1) then (.int .i64 (-1)) else (bif ((cmp3 (aR) (bR)) == 1) then (.int .i64 (-1)) else (.int .i64 (-1)))) else (bif ((cmp3 (aOid) (bOid)) == 1) then (bif ((cmp3 (aR) (bR)) == -1) then (.int .i64 (-1)) else (bif ((cmp3 (aR) (bR)) == 1) then (.int .i64 (-1)) else (.int .i64 (-1)))) else (bif ((cmp3 (aR) (bR)) == -1) then (.int .i64 (-1)) else (bif ((cmp3 (aR) (bR)) == 1) then (.int .i64 (-1)) else (.int .i64 (-1)))))) else (bif ((cmp3 (aTau) (bTau)) == 1) then (bif ((cmp3 (aOid) (bOid)) == -1) then (bif ((cmp3 (aR) (bR)) == -1) then (.int .i64 1) else (bif ((cmp3 (aR) (bR)) == 1) then (.int .i64 1) else (.int .i64 1))) else (bif ((cmp3 (aOid) (bOid)) == 1) then (bif ((cmp3 (aR) (bR)) == -1) then (.int .i64 1) else (bif ((cmp3 (aR) (bR)) == 1) then (.int .i64 1) else (.int .i64 1))) else (bif ((cmp3 (aR) (bR)) == -1) then (.int .i64 1) else (bif ((cmp3 (aR) (bR)) == 1) then (.int .i64 1) else (.int .i64 1))))) else (bif ((cmp3 (aOid) (bOid)) == -1) then (bif ((cmp3 (aR) (bR)) == -1) then (.int .i64 (-1)) else (bif ((cmp3 (aR) (bR)) == 1) then (.int .i64 (-1)) else (.int .i64 (-1)))) else (bif ((cmp3 (aOid) (bOid)) == 1) then (bif ((cmp3 (aR) (bR)) == -1) then (.int .i64 1) else (bif ((cmp3 (aR) (bR)) == 1) then (.int .i64 1) else (.int .i64 1))) else (bif ((cmp3 (aR) (bR)) == -1) then (.int .i64 (-1)) else (bif ((cmp3 (aR) (bR)) == 1) then (.int .i64 1) else (.int .i64 0)))))))
theorem tOrder_run (aTau : Int) (aOid : Int) (aR : Int) (bTau : Int) (bOid : Int) (bR : Int) : ∃ hp, aCall Try.prog E2 61 25 [.agg #[.int .i64 aTau, .int .i64 aOid, .int .i64 aR], .agg #[.int .i64 bTau, .int .i64 bOid, .int .i64 bR]] hp0 = some (tOrder aTau aOid aR bTau bOid bR, hp) := by
  cases h0 : ((cmp3 (aTau) (bTau)) == -1) with
  | true =>
    cases h1 : ((cmp3 (aOid) (bOid)) == -1) with
    | true =>
      cases h2 : ((cmp3 (aR) (bR)) == -1) with
      | true =>
        have e : tOrder aTau aOid aR bTau bOid bR = (.int .i64 (-1)) := by simp only [tOrder, h0, h1, h2, cond_true, cond_false]
        rw [e]
        exact callQ_run [(9, .int .i64 (-1)), (14, .int .i64 (-1)), (19, .int .i64 (-1))] (q := [(some (.int .i64 aOid), .int .i64 aOid), (some (.int .i64 bOid), .int .i64 bOid), (some (.int .i64 aR), .int .i64 aR), (some (.int .i64 aR), .int .i64 aR), (some (.int .i64 bR), .int .i64 bR), (some (.int .i64 bR), .int .i64 bR), (some (.int .i64 (cmp3 (aTau) (bTau))), .int .i64 (-1)), (some (.int .i64 (cmp3 (aOid) (bOid))), .int .i64 (-1)), (some (.int .i64 (cmp3 (aR) (bR))), .int .i64 (-1))]) (by kernel_rfl) (Met.cons rfl (Met.cons rfl (Met.cons rfl (Met.cons rfl (Met.cons rfl (Met.cons rfl (Met.cons (enumN h0) (Met.cons (enumN h1) (Met.cons (enumN h2) (Met.nil))))))))))
      | false =>
        cases h3 : ((cmp3 (aR) (bR)) == 1) with
        | true =>
          have e : tOrder aTau aOid aR bTau bOid bR = (.int .i64 (-1)) := by simp only [tOrder, h0, h1, h2, h3, cond_true, cond_false]
          rw [e]
          exact callQ_run [(9, .int .i64 (-1)), (14, .int .i64 (-1)), (19, .int .i64 (1))] (q := [(some (.int .i64 aOid), .int .i64 aOid), (some (.int .i64 bOid), .int .i64 bOid), (some (.int .i64 aR), .int .i64 aR), (some (.int .i64 aR), .int .i64 aR), (some (.int .i64 bR), .int .i64 bR), (some (.int .i64 bR), .int .i64 bR), (some (.int .i64 (cmp3 (aTau) (bTau))), .int .i64 (-1)), (some (.int .i64 (cmp3 (aOid) (bOid))), .int .i64 (-1)), (some (.int .i64 (cmp3 (aR) (bR))), .int .i64 (1))]) (by kernel_rfl) (Met.cons rfl (Met.cons rfl (Met.cons rfl (Met.cons rfl (Met.cons rfl (Met.cons rfl (Met.cons (enumN h0) (Met.cons (enumN h1) (Met.cons (enumP h3) (Met.nil))))))))))
        | false =>
          have e : tOrder aTau aOid aR bTau bOid bR = (.int .i64 (-1)) := by simp only [tOrder, h0, h1, h2, h3, cond_true, cond_false]
          rw [e]
          exact callQ_run [(9, .int .i64 (-1)), (14, .int .i64 (-1)), (19, .int .i64 (0))] (q := [(some (.int .i64 aOid), .int .i64 aOid), (some (.int .i64 bOid), .int .i64 bOid), (some (.int .i64 aR), .int .i64 aR), (some (.int .i64 aR), .int .i64 aR), (some (.int .i64 bR), .int .i64 bR), (some (.int .i64 bR), .int .i64 bR), (some (.int .i64 (cmp3 (aTau) (bTau))), .int .i64 (-1)), (some (.int .i64 (cmp3 (aOid) (bOid))), .int .i64 (-1)), (some (.int .i64 (cmp3 (aR) (bR))), .int .i64 (0))]) (by kernel_rfl) (Met.cons rfl (Met.cons rfl (Met.cons rfl (Met.cons rfl (Met.cons rfl (Met.cons rfl (Met.cons (enumN h0) (Met.cons (enumN h1) (Met.cons (enumZ (threecmp3 ..) h2 h3) (Met.nil))))))))))
    | false =>
      cases h2 : ((cmp3 (aOid) (bOid)) == 1) with
      | true =>
        cases h3 : ((cmp3 (aR) (bR)) == -1) with
        | true =>
          have e : tOrder aTau aOid aR bTau bOid bR = (.int .i64 (-1)) := by simp only [tOrder, h0, h1, h2, h3, cond_true, cond_false]
          rw [e]
          exact callQ_run [(9, .int .i64 (-1)), (14, .int .i64 (1)), (19, .int .i64 (-1))] (q := [(some (.int .i64 aOid), .int .i64 aOid), (some (.int .i64 bOid), .int .i64 bOid), (some (.int .i64 aR), .int .i64 aR), (some (.int .i64 aR), .int .i64 aR), (some (.int .i64 bR), .int .i64 bR), (some (.int .i64 bR), .int .i64 bR), (some (.int .i64 (cmp3 (aTau) (bTau))), .int .i64 (-1)), (some (.int .i64 (cmp3 (aOid) (bOid))), .int .i64 (1)), (some (.int .i64 (cmp3 (aR) (bR))), .int .i64 (-1))]) (by kernel_rfl) (Met.cons rfl (Met.cons rfl (Met.cons rfl (Met.cons rfl (Met.cons rfl (Met.cons rfl (Met.cons (enumN h0) (Met.cons (enumP h2) (Met.cons (enumN h3) (Met.nil))))))))))
        | false =>
          cases h4 : ((cmp3 (aR) (bR)) == 1) with
          | true =>
            have e : tOrder aTau aOid aR bTau bOid bR = (.int .i64 (-1)) := by simp only [tOrder, h0, h1, h2, h3, h4, cond_true, cond_false]
            rw [e]
            exact callQ_run [(9, .int .i64 (-1)), (14, .int .i64 (1)), (19, .int .i64 (1))] (q := [(some (.int .i64 aOid), .int .i64 aOid), (some (.int .i64 bOid), .int .i64 bOid), (some (.int .i64 aR), .int .i64 aR), (some (.int .i64 aR), .int .i64 aR), (some (.int .i64 bR), .int .i64 bR), (some (.int .i64 bR), .int .i64 bR), (some (.int .i64 (cmp3 (aTau) (bTau))), .int .i64 (-1)), (some (.int .i64 (cmp3 (aOid) (bOid))), .int .i64 (1)), (some (.int .i64 (cmp3 (aR) (bR))), .int .i64 (1))]) (by kernel_rfl) (Met.cons rfl (Met.cons rfl (Met.cons rfl (Met.cons rfl (Met.cons rfl (Met.cons rfl (Met.cons (enumN h0) (Met.cons (enumP h2) (Met.cons (enumP h4) (Met.nil))))))))))
          | false =>
            have e : tOrder aTau aOid aR bTau bOid bR = (.int .i64 (-1)) := by simp only [tOrder, h0, h1, h2, h3, h4, cond_true, cond_false]
            rw [e]
            exact callQ_run [(9, .int .i64 (-1)), (14, .int .i64 (1)), (19, .int .i64 (0))] (q := [(some (.int .i64 aOid), .int .i64 aOid), (some (.int .i64 bOid), .int .i64 bOid), (some (.int .i64 aR), .int .i64 aR), (some (.int .i64 aR), .int .i64 aR), (some (.int .i64 bR), .int .i64 bR), (some (.int .i64 bR), .int .i64 bR), (some (.int .i64 (cmp3 (aTau) (bTau))), .int .i64 (-1)), (some (.int .i64 (cmp3 (aOid) (bOid))), .int .i64 (1)), (some (.int .i64 (cmp3 (aR) (bR))), .int .i64 (0))]) (by kernel_rfl) (Met.cons rfl (Met.cons rfl (Met.cons rfl (Met.cons rfl (Met.cons rfl (Met.cons rfl (Met.cons (enumN h0) (Met.cons (enumP h2) (Met.cons (enumZ (threecmp3 ..) h3 h4) (Met.nil))))))))))
      | false =>
        cases h3 : ((cmp3 (aR) (bR)) == -1) with
        | true =>
          have e : tOrder aTau aOid aR bTau bOid bR = (.int .i64 (-1)) := by simp only [tOrder, h0, h1, h2, h3, cond_true, cond_false]
          rw [e]
          exact callQ_run [(9, .int .i64 (-1)), (14, .int .i64 (0)), (19, .int .i64 (-1))] (q := [(some (.int .i64 aOid), .int .i64 aOid), (some (.int .i64 bOid), .int .i64 bOid), (some (.int .i64 aR), .int .i64 aR), (some (.int .i64 aR), .int .i64 aR), (some (.int .i64 bR), .int .i64 bR), (some (.int .i64 bR), .int .i64 bR), (some (.int .i64 (cmp3 (aTau) (bTau))), .int .i64 (-1)), (some (.int .i64 (cmp3 (aOid) (bOid))), .int .i64 (0)), (some (.int .i64 (cmp3 (aR) (bR))), .int .i64 (-1))]) (by kernel_rfl) (Met.cons rfl (Met.cons rfl (Met.cons rfl (Met.cons rfl (Met.cons rfl (Met.cons rfl (Met.cons (enumN h0) (Met.cons (enumZ (threecmp3 ..) h1 h2) (Met.cons (enumN h3) (Met.nil))))))))))
        | false =>
          cases h4 : ((cmp3 (aR) (bR)) == 1) with
          | true =>
            have e : tOrder aTau aOid aR bTau bOid bR = (.int .i64 (-1)) := by simp only [tOrder, h0, h1, h2, h3, h4, cond_true, cond_false]
            rw [e]
            exact callQ_run [(9, .int .i64 (-1)), (14, .int .i64 (0)), (19, .int .i64 (1))] (q := [(some (.int .i64 aOid), .int .i64 aOid), (some (.int .i64 bOid), .int .i64 bOid), (some (.int .i64 aR), .int .i64 aR), (some (.int .i64 aR), .int .i64 aR), (some (.int .i64 bR), .int .i64 bR), (some (.int .i64 bR), .int .i64 bR), (some (.int .i64 (cmp3 (aTau) (bTau))), .int .i64 (-1)), (some (.int .i64 (cmp3 (aOid) (bOid))), .int .i64 (0)), (some (.int .i64 (cmp3 (aR) (bR))), .int .i64 (1))]) (by kernel_rfl) (Met.cons rfl (Met.cons rfl (Met.cons rfl (Met.cons rfl (Met.cons rfl (Met.cons rfl (Met.cons (enumN h0) (Met.cons (enumZ (threecmp3 ..) h1 h2) (Met.cons (enumP h4) (Met.nil))))))))))
          | false =>
            have e : tOrder aTau aOid aR bTau bOid bR = (.int .i64 (-1)) := by simp only [tOrder, h0, h1, h2, h3, h4, cond_true, cond_false]
            rw [e]
            exact callQ_run [(9, .int .i64 (-1)), (14, .int .i64 (0)), (19, .int .i64 (0))] (q := [(some (.int .i64 aOid), .int .i64 aOid), (some (.int .i64 bOid), .int .i64 bOid), (some (.int .i64 aR), .int .i64 aR), (some (.int .i64 aR), .int .i64 aR), (some (.int .i64 bR), .int .i64 bR), (some (.int .i64 bR), .int .i64 bR), (some (.int .i64 (cmp3 (aTau) (bTau))), .int .i64 (-1)), (some (.int .i64 (cmp3 (aOid) (bOid))), .int .i64 (0)), (some (.int .i64 (cmp3 (aR) (bR))), .int .i64 (0))]) (by kernel_rfl) (Met.cons rfl (Met.cons rfl (Met.cons rfl (Met.cons rfl (Met.cons rfl (Met.cons rfl (Met.cons (enumN h0) (Met.cons (enumZ (threecmp3 ..) h1 h2) (Met.cons (enumZ (threecmp3 ..) h3 h4) (Met.nil))))))))))
  | false =>
    cases h1 : ((cmp3 (aTau) (bTau)) == 1) with
    | true =>
      cases h2 : ((cmp3 (aOid) (bOid)) == -1) with
      | true =>
        cases h3 : ((cmp3 (aR) (bR)) == -1) with
        | true =>
          have e : tOrder aTau aOid aR bTau bOid bR = (.int .i64 1) := by simp only [tOrder, h0, h1, h2, h3, cond_true, cond_false]
          rw [e]
          exact callQ_run [(9, .int .i64 (1)), (14, .int .i64 (-1)), (19, .int .i64 (-1))] (q := [(some (.int .i64 aOid), .int .i64 aOid), (some (.int .i64 bOid), .int .i64 bOid), (some (.int .i64 aR), .int .i64 aR), (some (.int .i64 aR), .int .i64 aR), (some (.int .i64 bR), .int .i64 bR), (some (.int .i64 bR), .int .i64 bR), (some (.int .i64 (cmp3 (aTau) (bTau))), .int .i64 (1)), (some (.int .i64 (cmp3 (aOid) (bOid))), .int .i64 (-1)), (some (.int .i64 (cmp3 (aR) (bR))), .int .i64 (-1))]) (by kernel_rfl) (Met.cons rfl (Met.cons rfl (Met.cons rfl (Met.cons rfl (Met.cons rfl (Met.cons rfl (Met.cons (enumP h1) (Met.cons (enumN h2) (Met.cons (enumN h3) (Met.nil))))))))))
        | false =>
          cases h4 : ((cmp3 (aR) (bR)) == 1) with
          | true =>
            have e : tOrder aTau aOid aR bTau bOid bR = (.int .i64 1) := by simp only [tOrder, h0, h1, h2, h3, h4, cond_true, cond_false]
            rw [e]
            exact callQ_run [(9, .int .i64 (1)), (14, .int .i64 (-1)), (19, .int .i64 (1))] (q := [(some (.int .i64 aOid), .int .i64 aOid), (some (.int .i64 bOid), .int .i64 bOid), (some (.int .i64 aR), .int .i64 aR), (some (.int .i64 aR), .int .i64 aR), (some (.int .i64 bR), .int .i64 bR), (some (.int .i64 bR), .int .i64 bR), (some (.int .i64 (cmp3 (aTau) (bTau))), .int .i64 (1)), (some (.int .i64 (cmp3 (aOid) (bOid))), .int .i64 (-1)), (some (.int .i64 (cmp3 (aR) (bR))), .int .i64 (1))]) (by kernel_rfl) (Met.cons rfl (Met.cons rfl (Met.cons rfl (Met.cons rfl (Met.cons rfl (Met.cons rfl (Met.cons (enumP h1) (Met.cons (enumN h2) (Met.cons (enumP h4) (Met.nil))))))))))
          | false =>
            have e : tOrder aTau aOid aR bTau bOid bR = (.int .i64 1) := by simp only [tOrder, h0, h1, h2, h3, h4, cond_true, cond_false]
            rw [e]
            exact callQ_run [(9, .int .i64 (1)), (14, .int .i64 (-1)), (19, .int .i64 (0))] (q := [(some (.int .i64 aOid), .int .i64 aOid), (some (.int .i64 bOid), .int .i64 bOid), (some (.int .i64 aR), .int .i64 aR), (some (.int .i64 aR), .int .i64 aR), (some (.int .i64 bR), .int .i64 bR), (some (.int .i64 bR), .int .i64 bR), (some (.int .i64 (cmp3 (aTau) (bTau))), .int .i64 (1)), (some (.int .i64 (cmp3 (aOid) (bOid))), .int .i64 (-1)), (some (.int .i64 (cmp3 (aR) (bR))), .int .i64 (0))]) (by kernel_rfl) (Met.cons rfl (Met.cons rfl (Met.cons rfl (Met.cons rfl (Met.cons rfl (Met.cons rfl (Met.cons (enumP h1) (Met.cons (enumN h2) (Met.cons (enumZ (threecmp3 ..) h3 h4) (Met.nil))))))))))
      | false =>
        cases h3 : ((cmp3 (aOid) (bOid)) == 1) with
        | true =>
          cases h4 : ((cmp3 (aR) (bR)) == -1) with
          | true =>
            have e : tOrder aTau aOid aR bTau bOid bR = (.int .i64 1) := by simp only [tOrder, h0, h1, h2, h3, h4, cond_true, cond_false]
            rw [e]
            exact callQ_run [(9, .int .i64 (1)), (14, .int .i64 (1)), (19, .int .i64 (-1))] (q := [(some (.int .i64 aOid), .int .i64 aOid), (some (.int .i64 bOid), .int .i64 bOid), (some (.int .i64 aR), .int .i64 aR), (some (.int .i64 aR), .int .i64 aR), (some (.int .i64 bR), .int .i64 bR), (some (.int .i64 bR), .int .i64 bR), (some (.int .i64 (cmp3 (aTau) (bTau))), .int .i64 (1)), (some (.int .i64 (cmp3 (aOid) (bOid))), .int .i64 (1)), (some (.int .i64 (cmp3 (aR) (bR))), .int .i64 (-1))]) (by kernel_rfl) (Met.cons rfl (Met.cons rfl (Met.cons rfl (Met.cons rfl (Met.cons rfl (Met.cons rfl (Met.cons (enumP h1) (Met.cons (enumP h3) (Met.cons (enumN h4) (Met.nil))))))))))
          | false =>
            cases h5 : ((cmp3 (aR) (bR)) == 1) with
            | true =>
              have e : tOrder aTau aOid aR bTau bOid bR = (.int .i64 1) := by simp only [tOrder, h0, h1, h2, h3, h4, h5, cond_true, cond_false]
              rw [e]
              exact callQ_run [(9, .int .i64 (1)), (14, .int .i64 (1)), (19, .int .i64 (1))] (q := [(some (.int .i64 aOid), .int .i64 aOid), (some (.int .i64 bOid), .int .i64 bOid), (some (.int .i64 aR), .int .i64 aR), (some (.int .i64 aR), .int .i64 aR), (some (.int .i64 bR), .int .i64 bR), (some (.int .i64 bR), .int .i64 bR), (some (.int .i64 (cmp3 (aTau) (bTau))), .int .i64 (1)), (some (.int .i64 (cmp3 (aOid) (bOid))), .int .i64 (1)), (some (.int .i64 (cmp3 (aR) (bR))), .int .i64 (1))]) (by kernel_rfl) (Met.cons rfl (Met.cons rfl (Met.cons rfl (Met.cons rfl (Met.cons rfl (Met.cons rfl (Met.cons (enumP h1) (Met.cons (enumP h3) (Met.cons (enumP h5) (Met.nil))))))))))
            | false =>
              have e : tOrder aTau aOid aR bTau bOid bR = (.int .i64 1) := by simp only [tOrder, h0, h1, h2, h3, h4, h5, cond_true, cond_false]
              rw [e]
              exact callQ_run [(9, .int .i64 (1)), (14, .int .i64 (1)), (19, .int .i64 (0))] (q := [(some (.int .i64 aOid), .int .i64 aOid), (some (.int .i64 bOid), .int .i64 bOid), (some (.int .i64 aR), .int .i64 aR), (some (.int .i64 aR), .int .i64 aR), (some (.int .i64 bR), .int .i64 bR), (some (.int .i64 bR), .int .i64 bR), (some (.int .i64 (cmp3 (aTau) (bTau))), .int .i64 (1)), (some (.int .i64 (cmp3 (aOid) (bOid))), .int .i64 (1)), (some (.int .i64 (cmp3 (aR) (bR))), .int .i64 (0))]) (by kernel_rfl) (Met.cons rfl (Met.cons rfl (Met.cons rfl (Met.cons rfl (Met.cons rfl (Met.cons rfl (Met.cons (enumP h1) (Met.cons (enumP h3) (Met.cons (enumZ (threecmp3 ..) h4 h5) (Met.nil))))))))))
        | false =>
          cases h4 : ((cmp3 (aR) (bR)) == -1) with
          | true =>
            have e : tOrder aTau aOid aR bTau bOid bR = (.int .i64 1) := by simp only [tOrder, h0, h1, h2, h3, h4, cond_true, cond_false]
            rw [e]
            exact callQ_run [(9, .int .i64 (1)), (14, .int .i64 (0)), (19, .int .i64 (-1))] (q := [(some (.int .i64 aOid), .int .i64 aOid), (some (.int .i64 bOid), .int .i64 bOid), (some (.int .i64 aR), .int .i64 aR), (some (.int .i64 aR), .int .i64 aR), (some (.int .i64 bR), .int .i64 bR), (some (.int .i64 bR), .int .i64 bR), (some (.int .i64 (cmp3 (aTau) (bTau))), .int .i64 (1)), (some (.int .i64 (cmp3 (aOid) (bOid))), .int .i64 (0)), (some (.int .i64 (cmp3 (aR) (bR))), .int .i64 (-1))]) (by kernel_rfl) (Met.cons rfl (Met.cons rfl (Met.cons rfl (Met.cons rfl (Met.cons rfl (Met.cons rfl (Met.cons (enumP h1) (Met.cons (enumZ (threecmp3 ..) h2 h3) (Met.cons (enumN h4) (Met.nil))))))))))
          | false =>
            cases h5 : ((cmp3 (aR) (bR)) == 1) with
            | true =>
              have e : tOrder aTau aOid aR bTau bOid bR = (.int .i64 1) := by simp only [tOrder, h0, h1, h2, h3, h4, h5, cond_true, cond_false]
              rw [e]
              exact callQ_run [(9, .int .i64 (1)), (14, .int .i64 (0)), (19, .int .i64 (1))] (q := [(some (.int .i64 aOid), .int .i64 aOid), (some (.int .i64 bOid), .int .i64 bOid), (some (.int .i64 aR), .int .i64 aR), (some (.int .i64 aR), .int .i64 aR), (some (.int .i64 bR), .int .i64 bR), (some (.int .i64 bR), .int .i64 bR), (some (.int .i64 (cmp3 (aTau) (bTau))), .int .i64 (1)), (some (.int .i64 (cmp3 (aOid) (bOid))), .int .i64 (0)), (some (.int .i64 (cmp3 (aR) (bR))), .int .i64 (1))]) (by kernel_rfl) (Met.cons rfl (Met.cons rfl (Met.cons rfl (Met.cons rfl (Met.cons rfl (Met.cons rfl (Met.cons (enumP h1) (Met.cons (enumZ (threecmp3 ..) h2 h3) (Met.cons (enumP h5) (Met.nil))))))))))
            | false =>
              have e : tOrder aTau aOid aR bTau bOid bR = (.int .i64 1) := by simp only [tOrder, h0, h1, h2, h3, h4, h5, cond_true, cond_false]
              rw [e]
              exact callQ_run [(9, .int .i64 (1)), (14, .int .i64 (0)), (19, .int .i64 (0))] (q := [(some (.int .i64 aOid), .int .i64 aOid), (some (.int .i64 bOid), .int .i64 bOid), (some (.int .i64 aR), .int .i64 aR), (some (.int .i64 aR), .int .i64 aR), (some (.int .i64 bR), .int .i64 bR), (some (.int .i64 bR), .int .i64 bR), (some (.int .i64 (cmp3 (aTau) (bTau))), .int .i64 (1)), (some (.int .i64 (cmp3 (aOid) (bOid))), .int .i64 (0)), (some (.int .i64 (cmp3 (aR) (bR))), .int .i64 (0))]) (by kernel_rfl) (Met.cons rfl (Met.cons rfl (Met.cons rfl (Met.cons rfl (Met.cons rfl (Met.cons rfl (Met.cons (enumP h1) (Met.cons (enumZ (threecmp3 ..) h2 h3) (Met.cons (enumZ (threecmp3 ..) h4 h5) (Met.nil))))))))))
    | false =>
      cases h2 : ((cmp3 (aOid) (bOid)) == -1) with
      | true =>
        cases h3 : ((cmp3 (aR) (bR)) == -1) with
        | true =>
          have e : tOrder aTau aOid aR bTau bOid bR = (.int .i64 (-1)) := by simp only [tOrder, h0, h1, h2, h3, cond_true, cond_false]
          rw [e]
          exact callQ_run [(9, .int .i64 (0)), (14, .int .i64 (-1)), (19, .int .i64 (-1))] (q := [(some (.int .i64 aOid), .int .i64 aOid), (some (.int .i64 bOid), .int .i64 bOid), (some (.int .i64 aR), .int .i64 aR), (some (.int .i64 aR), .int .i64 aR), (some (.int .i64 bR), .int .i64 bR), (some (.int .i64 bR), .int .i64 bR), (some (.int .i64 (cmp3 (aTau) (bTau))), .int .i64 (0)), (some (.int .i64 (cmp3 (aOid) (bOid))), .int .i64 (-1)), (some (.int .i64 (cmp3 (aR) (bR))), .int .i64 (-1))]) (by kernel_rfl) (Met.cons rfl (Met.cons rfl (Met.cons rfl (Met.cons rfl (Met.cons rfl (Met.cons rfl (Met.cons (enumZ (threecmp3 ..) h0 h1) (Met.cons (enumN h2) (Met.cons (enumN h3) (Met.nil))))))))))
        | false =>
          cases h4 : ((cmp3 (aR) (bR)) == 1) with
          | true =>
            have e : tOrder aTau aOid aR bTau bOid bR = (.int .i64 (-1)) := by simp only [tOrder, h0, h1, h2, h3, h4, cond_true, cond_false]
            rw [e]
            exact callQ_run [(9, .int .i64 (0)), (14, .int .i64 (-1)), (19, .int .i64 (1))] (q := [(some (.int .i64 aOid), .int .i64 aOid), (some (.int .i64 bOid), .int .i64 bOid), (some (.int .i64 aR), .int .i64 aR), (some (.int .i64 aR), .int .i64 aR), (some (.int .i64 bR), .int .i64 bR), (some (.int .i64 bR), .int .i64 bR), (some (.int .i64 (cmp3 (aTau) (bTau))), .int .i64 (0)), (some (.int .i64 (cmp3 (aOid) (bOid))), .int .i64 (-1)), (some (.int .i64 (cmp3 (aR) (bR))), .int .i64 (1))]) (by kernel_rfl) (Met.cons rfl (Met.cons rfl (Met.cons rfl (Met.cons rfl (Met.cons rfl (Met.cons rfl (Met.cons (enumZ (threecmp3 ..) h0 h1) (Met.cons (enumN h2) (Met.cons (enumP h4) (Met.nil))))))))))
          | false =>
            have e : tOrder aTau aOid aR bTau bOid bR = (.int .i64 (-1)) := by simp only [tOrder, h0, h1, h2, h3, h4, cond_true, cond_false]
            rw [e]
            exact callQ_run [(9, .int .i64 (0)), (14, .int .i64 (-1)), (19, .int .i64 (0))] (q := [(some (.int .i64 aOid), .int .i64 aOid), (some (.int .i64 bOid), .int .i64 bOid), (some (.int .i64 aR), .int .i64 aR), (some (.int .i64 aR), .int .i64 aR), (some (.int .i64 bR), .int .i64 bR), (some (.int .i64 bR), .int .i64 bR), (some (.int .i64 (cmp3 (aTau) (bTau))), .int .i64 (0)), (some (.int .i64 (cmp3 (aOid) (bOid))), .int .i64 (-1)), (some (.int .i64 (cmp3 (aR) (bR))), .int .i64 (0))]) (by kernel_rfl) (Met.cons rfl (Met.cons rfl (Met.cons rfl (Met.cons rfl (Met.cons rfl (Met.cons rfl (Met.cons (enumZ (threecmp3 ..) h0 h1) (Met.cons (enumN h2) (Met.cons (enumZ (threecmp3 ..) h3 h4) (Met.nil))))))))))
      | false =>
        cases h3 : ((cmp3 (aOid) (bOid)) == 1) with
        | true =>
          cases h4 : ((cmp3 (aR) (bR)) == -1) with
          | true =>
            have e : tOrder aTau aOid aR bTau bOid bR = (.int .i64 1) := by simp only [tOrder, h0, h1, h2, h3, h4, cond_true, cond_false]
            rw [e]
            exact callQ_run [(9, .int .i64 (0)), (14, .int .i64 (1)), (19, .int .i64 (-1))] (q := [(some (.int .i64 aOid), .int .i64 aOid), (some (.int .i64 bOid), .int .i64 bOid), (some (.int .i64 aR), .int .i64 aR), (some (.int .i64 aR), .int .i64 aR), (some (.int .i64 bR), .int .i64 bR), (some (.int .i64 bR), .int .i64 bR), (some (.int .i64 (cmp3 (aTau) (bTau))), .int .i64 (0)), (some (.int .i64 (cmp3 (aOid) (bOid))), .int .i64 (1)), (some (.int .i64 (cmp3 (aR) (bR))), .int .i64 (-1))]) (by kernel_rfl) (Met.cons rfl (Met.cons rfl (Met.cons rfl (Met.cons rfl (Met.cons rfl (Met.cons rfl (Met.cons (enumZ (threecmp3 ..) h0 h1) (Met.cons (enumP h3) (Met.cons (enumN h4) (Met.nil))))))))))
          | false =>
            cases h5 : ((cmp3 (aR) (bR)) == 1) with
            | true =>
              have e : tOrder aTau aOid aR bTau bOid bR = (.int .i64 1) := by simp only [tOrder, h0, h1, h2, h3, h4, h5, cond_true, cond_false]
              rw [e]
              exact callQ_run [(9, .int .i64 (0)), (14, .int .i64 (1)), (19, .int .i64 (1))] (q := [(some (.int .i64 aOid), .int .i64 aOid), (some (.int .i64 bOid), .int .i64 bOid), (some (.int .i64 aR), .int .i64 aR), (some (.int .i64 aR), .int .i64 aR), (some (.int .i64 bR), .int .i64 bR), (some (.int .i64 bR), .int .i64 bR), (some (.int .i64 (cmp3 (aTau) (bTau))), .int .i64 (0)), (some (.int .i64 (cmp3 (aOid) (bOid))), .int .i64 (1)), (some (.int .i64 (cmp3 (aR) (bR))), .int .i64 (1))]) (by kernel_rfl) (Met.cons rfl (Met.cons rfl (Met.cons rfl (Met.cons rfl (Met.cons rfl (Met.cons rfl (Met.cons (enumZ (threecmp3 ..) h0 h1) (Met.cons (enumP h3) (Met.cons (enumP h5) (Met.nil))))))))))
            | false =>
              have e : tOrder aTau aOid aR bTau bOid bR = (.int .i64 1) := by simp only [tOrder, h0, h1, h2, h3, h4, h5, cond_true, cond_false]
              rw [e]
              exact callQ_run [(9, .int .i64 (0)), (14, .int .i64 (1)), (19, .int .i64 (0))] (q := [(some (.int .i64 aOid), .int .i64 aOid), (some (.int .i64 bOid), .int .i64 bOid), (some (.int .i64 aR), .int .i64 aR), (some (.int .i64 aR), .int .i64 aR), (some (.int .i64 bR), .int .i64 bR), (some (.int .i64 bR), .int .i64 bR), (some (.int .i64 (cmp3 (aTau) (bTau))), .int .i64 (0)), (some (.int .i64 (cmp3 (aOid) (bOid))), .int .i64 (1)), (some (.int .i64 (cmp3 (aR) (bR))), .int .i64 (0))]) (by kernel_rfl) (Met.cons rfl (Met.cons rfl (Met.cons rfl (Met.cons rfl (Met.cons rfl (Met.cons rfl (Met.cons (enumZ (threecmp3 ..) h0 h1) (Met.cons (enumP h3) (Met.cons (enumZ (threecmp3 ..) h4 h5) (Met.nil))))))))))
        | false =>
          cases h4 : ((cmp3 (aR) (bR)) == -1) with
          | true =>
            have e : tOrder aTau aOid aR bTau bOid bR = (.int .i64 (-1)) := by simp only [tOrder, h0, h1, h2, h3, h4, cond_true, cond_false]
            rw [e]
            exact callQ_run [(9, .int .i64 (0)), (14, .int .i64 (0)), (19, .int .i64 (-1))] (q := [(some (.int .i64 aOid), .int .i64 aOid), (some (.int .i64 bOid), .int .i64 bOid), (some (.int .i64 aR), .int .i64 aR), (some (.int .i64 aR), .int .i64 aR), (some (.int .i64 bR), .int .i64 bR), (some (.int .i64 bR), .int .i64 bR), (some (.int .i64 (cmp3 (aTau) (bTau))), .int .i64 (0)), (some (.int .i64 (cmp3 (aOid) (bOid))), .int .i64 (0)), (some (.int .i64 (cmp3 (aR) (bR))), .int .i64 (-1))]) (by kernel_rfl) (Met.cons rfl (Met.cons rfl (Met.cons rfl (Met.cons rfl (Met.cons rfl (Met.cons rfl (Met.cons (enumZ (threecmp3 ..) h0 h1) (Met.cons (enumZ (threecmp3 ..) h2 h3) (Met.cons (enumN h4) (Met.nil))))))))))
          | false =>
            cases h5 : ((cmp3 (aR) (bR)) == 1) with
            | true =>
              have e : tOrder aTau aOid aR bTau bOid bR = (.int .i64 1) := by simp only [tOrder, h0, h1, h2, h3, h4, h5, cond_true, cond_false]
              rw [e]
              exact callQ_run [(9, .int .i64 (0)), (14, .int .i64 (0)), (19, .int .i64 (1))] (q := [(some (.int .i64 aOid), .int .i64 aOid), (some (.int .i64 bOid), .int .i64 bOid), (some (.int .i64 aR), .int .i64 aR), (some (.int .i64 aR), .int .i64 aR), (some (.int .i64 bR), .int .i64 bR), (some (.int .i64 bR), .int .i64 bR), (some (.int .i64 (cmp3 (aTau) (bTau))), .int .i64 (0)), (some (.int .i64 (cmp3 (aOid) (bOid))), .int .i64 (0)), (some (.int .i64 (cmp3 (aR) (bR))), .int .i64 (1))]) (by kernel_rfl) (Met.cons rfl (Met.cons rfl (Met.cons rfl (Met.cons rfl (Met.cons rfl (Met.cons rfl (Met.cons (enumZ (threecmp3 ..) h0 h1) (Met.cons (enumZ (threecmp3 ..) h2 h3) (Met.cons (enumP h5) (Met.nil))))))))))
            | false =>
              have e : tOrder aTau aOid aR bTau bOid bR = (.int .i64 0) := by simp only [tOrder, h0, h1, h2, h3, h4, h5, cond_true, cond_false]
              rw [e]
              exact callQ_run [(9, .int .i64 (0)), (14, .int .i64 (0)), (19, .int .i64 (0))] (q := [(some (.int .i64 aOid), .int .i64 aOid), (some (.int .i64 bOid), .int .i64 bOid), (some (.int .i64 aR), .int .i64 aR), (some (.int .i64 aR), .int .i64 aR), (some (.int .i64 bR), .int .i64 bR), (some (.int .i64 bR), .int .i64 bR), (some (.int .i64 (cmp3 (aTau) (bTau))), .int .i64 (0)), (some (.int .i64 (cmp3 (aOid) (bOid))), .int .i64 (0)), (some (.int .i64 (cmp3 (aR) (bR))), .int .i64 (0))]) (by kernel_rfl) (Met.cons rfl (Met.cons rfl (Met.cons rfl (Met.cons rfl (Met.cons rfl (Met.cons rfl (Met.cons (enumZ (threecmp3 ..) h0 h1) (Met.cons (enumZ (threecmp3 ..) h2 h3) (Met.cons (enumZ (threecmp3 ..) h4 h5) (Met.nil))))))))))


def lev0 (n : Bool) (t o r d i : Int) : Int := bif known n t o r d i then t else 0
def lev1 (n : Bool) (t o r d i : Int) : Int := bif known n t o r d i then o else 0
def lev2 (n : Bool) (t o r d i : Int) : Int := bif known n t o r d i then r else 0
theorem tLevel_eq (n : Bool) (t o r d i : Int) : tLevel n t o r d i = .agg #[.int .i64 (lev0 n t o r d i), .int .i64 (lev1 n t o r d i), .int .i64 (lev2 n t o r d i)] := by
  unfold tLevel lev0 lev1 lev2
  cases known n t o r d i <;> rfl
def or3 (x y z : Int) : Int := bif x == 0 then (bif y == 0 then z else y) else x
def ord3 (a b c a' b' c' : Int) : Int := or3 (cmp3 a a') (cmp3 b b') (cmp3 c c')
theorem threeor3 {x y z : Int} (hx : x = -1 ∨ x = 0 ∨ x = 1) (hy : y = -1 ∨ y = 0 ∨ y = 1) (hz : z = -1 ∨ z = 0 ∨ z = 1) : or3 x y z = -1 ∨ or3 x y z = 0 ∨ or3 x y z = 1 := by
  rcases hx with rfl | rfl | rfl <;> rcases hy with rfl | rfl | rfl <;> rcases hz with rfl | rfl | rfl <;> decide
theorem threeord3 (a b c a' b' c' : Int) : ord3 a b c a' b' c' = -1 ∨ ord3 a b c a' b' c' = 0 ∨ ord3 a b c a' b' c' = 1 := threeor3 (threecmp3 ..) (threecmp3 ..) (threecmp3 ..)
theorem tOrder_eq (a b c a' b' c' : Int) : tOrder a b c a' b' c' = .int .i64 (ord3 a b c a' b' c') := by
  unfold tOrder ord3
  rcases threecmp3 a a' with h | h | h <;> rcases threecmp3 b b' with h2 | h2 | h2 <;> rcases threecmp3 c c' with h3 | h3 | h3 <;> rw [h, h2, h3] <;> rfl
def g31 : List Value → Option Value
  | [.agg c0] => match c0.toList with
    | [.bool hn, .int .i64 ht, .int .i64 ho, .int .i64 hr, .int .i64 hd, .int .i64 hi] => some (.agg #[.int .i64 (lev0 hn ht ho hr hd hi), .int .i64 (lev1 hn ht ho hr hd hi), .int .i64 (lev2 hn ht ho hr hd hi)])
    | _ => none
  | _ => none
theorem hk31 : HookGoal Try.prog 26 g31 := hook_of (ext := E2) E2_ok follows Try.func26 (by kernel_rfl) fun args v h => by
  unfold g31 at h
  split at h
  · rename_i c0
    split at h
    · rename_i ec0
      cases h
      obtain rfl := arr_of ec0
      refine ⟨rfl, rfl, ?_⟩
      obtain ⟨hp, q⟩ := tLevel_run _ _ _ _ _ _
      rw [tLevel_eq] at q
      exact ⟨_, hp, q⟩
    · cases h
  · cases h
def g30 : List Value → Option Value
  | [.agg c0, .agg c1] => match c0.toList, c1.toList with
    | [.int .i64 a, .int .i64 b, .int .i64 c], [.int .i64 d, .int .i64 e, .int .i64 f] => some (.int .i64 (ord3 a b c d e f))
    | _, _ => none
  | _ => none
theorem hk30 : HookGoal Try.prog 25 g30 := hook_of (ext := E2) E2_ok follows Try.func25 (by kernel_rfl) fun args v h => by
  unfold g30 at h
  split at h
  · rename_i c0 c1
    split at h
    · rename_i ec0 ec1
      cases h
      obtain rfl := arr_of ec0
      obtain rfl := arr_of ec1
      refine ⟨rfl, rfl, ?_⟩
      obtain ⟨hp, q⟩ := tOrder_run _ _ _ _ _ _
      rw [tOrder_eq] at q
      exact ⟨_, hp, q⟩
    · cases h
  · cases h
noncomputable def E3 : Ext := extH Try.prog [(50, g54), (51, g52), (26, g31), (25, g30)]
theorem E3_ok : ExtOk Try.prog E3 := by unfold E3; exact extH_ok (.cons hk54 (.cons hk52 (.cons hk31 (.cons hk30 .nil))))

end Go.Proofs.Ytgeoommlmddgpaa.LtA
namespace Go.Proofs.Ytgeoommlmddgpaa.LtA
open Go Go.Proofs Go.Proofs.Ytgeoommlmddgpaa.AI

/-- thalweg/height.Less -/
def tLess (aNull : Bool) (aTau : Int) (aOid : Int) (aR : Int) (aDelta : Int) (aId : Int) (bNull : Bool) (bTau : Int) (bOid : Int) (bR : Int) (bDelta : Int) (bId : Int) : Value := (bif (known (aNull) (aTau) (aOid) (aR) (aDelta) (aId)) then (bif (known (bNull) (bTau) (bOid) (bR) (bDelta) (bId)) then (bif ((ord3 ((lev0 (aNull) (aTau) (aOid) (aR) (aDelta) (aId))) ((lev1 (aNull) (aTau) (aOid) (aR) (aDelta) (aId))) ((lev2 (aNull) (aTau) (aOid) (aR) (aDelta) (aId))) ((lev0 (bNull) (bTau) (bOid) (bR) (bDelta) (bId))) ((lev1 (bNull) (bTau) (bOid) (bR) (bDelta) (bId))) ((lev2 (bNull) (bTau) (bOid) (bR) (bDelta) (bId)))) == -1) then (bif ((cmp3 (aDelta) (bDelta)) == -1) then (bif ((cmp3 (aId) (bId)) == -1) then (.bool true) else (bif ((cmp3 (aId) (bId)) == 1) then (.bool true) else (.bool true))) else (bif ((cmp3 (aDelta) (bDelta)) == 1) then (bif ((cmp3 (aId) (bId)) == -1) then (.bool true) else (bif ((cmp3 (aId) (bId)) == 1) then (.bool true) else (.bool true))) else (bif ((cmp3 (aId) (bId)) == -1) then (.bool true) else (bif ((cmp3 (aId) (bId)) == 1) then (.bool true) else (.bool true))))) else (bif ((ord3 ((lev0 (aNull) (aTau) (aOid) (aR) (aDelta) (aId))) ((lev1 (aNull) (aTau) (aOid) (aR) (aDelta) (aId))) ((lev2 (aNull) (aTau) (aOid) (aR) (aDelta) (aId))) ((lev0 (bNull) (bTau) (bOid) (bR) (bDelta) (bId))) ((lev1 (bNull) (bTau) (bOid) (bR) (bDelta) (bId))) ((lev2 (bNull) (bTau) (bOid) (bR) (bDelta) (bId)))) == 1) then (bif ((cmp3 (aDelta) (bDelta)) == -1) then (bif ((cmp3 (aId) (bId)) == -1) then (.bool false) else (bif ((cmp3 (aId) (bId)) == 1) then (.bool false) else (.bool false))) else (bif ((cmp3 (aDelta) (bDelta)) == 1) then (bif ((cmp3 (aId) (bId)) == -1) then (.bool false) else (bif ((cmp3 (aId) (bId)) == 1) then (.bool false) else (.bool false))) else (bif ((cmp3 (aId) (bId)) == -1) then (.bool false) else (bif ((cmp3 (aId) (bId)) == 1) then (.bool false) else (.bool false))))) else (bif ((cmp3 (aDelta) (bDelta)) == -1) then (bif ((cmp3 (aId) (bId)) == -1) then (.bool true) else (bif ((cmp3 (aId) (bId)) == 1) then (.bool true) else (.bool true))) else (bif ((cmp3 (aDelta) (bDelta)) == 1) then (bif ((cmp3 (aId) (bId)) == -1) then (.bool false) else (bif ((cmp3 (aId) (bId)) == 1) then (.bool false) else (.bool false))) else (bif ((cmp3 (aId) (bId)) == -1) then (.bool true) else (bif ((cmp3 (aId) (bId)) == 1) then (.bool false) else (.bool false))))))) else (.bool false)) else (.bool false))
theorem tLess_run (aNull : Bool) (aTau : Int) (aOid : Int) (aR : Int) (aDelta : Int) (aId : Int) (bNull : Bool) (bTau : Int) (bOid : Int) (bR : Int) (bDelta : Int) (bId : Int) : ∃ hp, aCall Try.prog E3 61 35 [.agg #[.bool aNull, .int .i64 aTau, .int .i64 aOid, .int .i64 aR, .int .i64 aDelta, .int .i64 aId], .agg #[.bool bNull, .int .i64 bTau, .int .i64 bOid, .int .i64 bR, .int .i64 bDelta, .int .i64 bId]] hp0 = some (tLess aNull aTau aOid aR aDelta aId bNull bTau bOid bR bDelta bId, hp) := by
  cases h0 : (known (aNull) (aTau) (aOid) (aR) (aDelta) (aId)) with
  | true =>
    cases h1 : (known (bNull) (bTau) (bOid) (bR) (bDelta) (bId)) with
    | true =>
      cases h2 : ((ord3 ((lev0 (aNull) (aTau) (aOid) (aR) (aDelta) (aId))) ((lev1 (aNull) (aTau) (aOid) (aR) (aDelta) (aId))) ((lev2 (aNull) (aTau) (aOid) (aR) (aDelta) (aId))) ((lev0 (bNull) (bTau) (bOid) (bR) (bDelta) (bId))) ((lev1 (bNull) (bTau) (bOid) (bR) (bDelta) (bId))) ((lev2 (bNull) (bTau) (bOid) (bR) (bDelta) (bId)))) == -1) with
      | true =>
        cases h3 : ((cmp3 (aDelta) (bDelta)) == -1) with
        | true =>
          cases h4 : ((cmp3 (aId) (bId)) == -1) with
          | true =>
            have e : tLess aNull aTau aOid aR aDelta aId bNull bTau bOid bR bDelta bId = (.bool true) := by simp only [tLess, h0, h1, h2, h3, h4, cond_true, cond_false]
            rw [e]
            exact callQ_run [(6, .bool true), (9, .bool true), (16, .int .i64 (-1)), (21, .int .i64 (-1)), (26, .int .i64 (-1))] (q := [(some (.agg #[.bool bNull, .int .i64 bTau, .int .i64 bOid, .int .i64 bR, .int .i64 bDelta, .int .i64 bId]), .agg #[.bool bNull, .int .i64 bTau, .int .i64 bOid, .int .i64 bR, .int .i64 bDelta, .int .i64 bId]), (some (.int .i64 aDelta), .int .i64 aDelta), (some (.int .i64 aDelta), .int .i64 aDelta), (some (.int .i64 aDelta), .int .i64 aDelta), (some (.int .i64 bDelta), .int .i64 bDelta), (some (.int .i64 bDelta), .int .i64 bDelta), (some (.int .i64 bDelta), .int .i64 bDelta), (some (.int .i64 aId), .int .i64 aId), (some (.int .i64 aId), .int .i64 aId), (some (.int .i64 aId), .int .i64 aId), (some (.int .i64 aId), .int .i64 aId), (some (.int .i64 bId), .int .i64 bId), (some (.int .i64 bId), .int .i64 bId), (some (.int .i64 bId), .int .i64 bId), (some (.int .i64 bId), .int .i64 bId), (some (.bool (known (aNull) (aTau) (aOid) (aR) (aDelta) (aId))), .bool true), (some (.bool (known (bNull) (bTau) (bOid) (bR) (bDelta) (bId))), .bool true), (some (.int .i64 (ord3 ((lev0 (aNull) (aTau) (aOid) (aR) (aDelta) (aId))) ((lev1 (aNull) (aTau) (aOid) (aR) (aDelta) (aId))) ((lev2 (aNull) (aTau) (aOid) (aR) (aDelta) (aId))) ((lev0 (bNull) (bTau) (bOid) (bR) (bDelta) (bId))) ((lev1 (bNull) (bTau) (bOid) (bR) (bDelta) (bId))) ((lev2 (bNull) (bTau) (bOid) (bR) (bDelta) (bId))))), .int .i64 (-1)), (some (.int .i64 (cmp3 (aDelta) (bDelta))), .int .i64 (-1)), (some (.int .i64 (cmp3 (aId) (bId))), .int .i64 (-1))]) (by kernel_rfl) (Met.cons rfl (Met.cons rfl (Met.cons rfl (Met.cons rfl (Met.cons rfl (Met.cons rfl (Met.cons rfl (Met.cons rfl (Met.cons rfl (Met.cons rfl (Met.cons rfl (Met.cons rfl (Met.cons rfl (Met.cons rfl (Met.cons rfl (Met.cons (met_bool h0) (Met.cons (met_bool h1) (Met.cons (enumN h2) (Met.cons (enumN h3) (Met.cons (enumN h4) (Met.nil)))))))))))))))))))))
          | false =>
            cases h5 : ((cmp3 (aId) (bId)) == 1) with
            | true =>
              have e : tLess aNull aTau aOid aR aDelta aId bNull bTau bOid bR bDelta bId = (.bool true) := by simp only [tLess, h0, h1, h2, h3, h4, h5, cond_true, cond_false]
              rw [e]
              exact callQ_run [(6, .bool true), (9, .bool true), (16, .int .i64 (-1)), (21, .int .i64 (-1)), (26, .int .i64 (1))] (q := [(some (.agg #[.bool bNull, .int .i64 bTau, .int .i64 bOid, .int .i64 bR, .int .i64 bDelta, .int .i64 bId]), .agg #[.bool bNull, .int .i64 bTau, .int .i64 bOid, .int .i64 bR, .int .i64 bDelta, .int .i64 bId]), (some (.int .i64 aDelta), .int .i64 aDelta), (some (.int .i64 aDelta), .int .i64 aDelta), (some (.int .i64 aDelta), .int .i64 aDelta), (some (.int .i64 bDelta), .int .i64 bDelta), (some (.int .i64 bDelta), .int .i64 bDelta), (some (.int .i64 bDelta), .int .i64 bDelta), (some (.int .i64 aId), .int .i64 aId), (some (.int .i64 aId), .int .i64 aId), (some (.int .i64 aId), .int .i64 aId), (some (.int .i64 aId), .int .i64 aId), (some (.int .i64 bId), .int .i64 bId), (some (.int .i64 bId), .int .i64 bId), (some (.int .i64 bId), .int .i64 bId), (some (.int .i64 bId), .int .i64 bId), (some (.bool (known (aNull) (aTau) (aOid) (aR) (aDelta) (aId))), .bool true), (some (.bool (known (bNull) (bTau) (bOid) (bR) (bDelta) (bId))), .bool true), (some (.int .i64 (ord3 ((lev0 (aNull) (aTau) (aOid) (aR) (aDelta) (aId))) ((lev1 (aNull) (aTau) (aOid) (aR) (aDelta) (aId))) ((lev2 (aNull) (aTau) (aOid) (aR) (aDelta) (aId))) ((lev0 (bNull) (bTau) (bOid) (bR) (bDelta) (bId))) ((lev1 (bNull) (bTau) (bOid) (bR) (bDelta) (bId))) ((lev2 (bNull) (bTau) (bOid) (bR) (bDelta) (bId))))), .int .i64 (-1)), (some (.int .i64 (cmp3 (aDelta) (bDelta))), .int .i64 (-1)), (some (.int .i64 (cmp3 (aId) (bId))), .int .i64 (1))]) (by kernel_rfl) (Met.cons rfl (Met.cons rfl (Met.cons rfl (Met.cons rfl (Met.cons rfl (Met.cons rfl (Met.cons rfl (Met.cons rfl (Met.cons rfl (Met.cons rfl (Met.cons rfl (Met.cons rfl (Met.cons rfl (Met.cons rfl (Met.cons rfl (Met.cons (met_bool h0) (Met.cons (met_bool h1) (Met.cons (enumN h2) (Met.cons (enumN h3) (Met.cons (enumP h5) (Met.nil)))))))))))))))))))))
            | false =>
              have e : tLess aNull aTau aOid aR aDelta aId bNull bTau bOid bR bDelta bId = (.bool true) := by simp only [tLess, h0, h1, h2, h3, h4, h5, cond_true, cond_false]
              rw [e]
              exact callQ_run [(6, .bool true), (9, .bool true), (16, .int .i64 (-1)), (21, .int .i64 (-1)), (26, .int .i64 (0))] (q := [(some (.agg #[.bool bNull, .int .i64 bTau, .int .i64 bOid, .int .i64 bR, .int .i64 bDelta, .int .i64 bId]), .agg #[.bool bNull, .int .i64 bTau, .int .i64 bOid, .int .i64 bR, .int .i64 bDelta, .int .i64 bId]), (some (.int .i64 aDelta), .int .i64 aDelta), (some (.int .i64 aDelta), .int .i64 aDelta), (some (.int .i64 aDelta), .int .i64 aDelta), (some (.int .i64 bDelta), .int .i64 bDelta), (some (.int .i64 bDelta), .int .i64 bDelta), (some (.int .i64 bDelta), .int .i64 bDelta), (some (.int .i64 aId), .int .i64 aId), (some (.int .i64 aId), .int .i64 aId), (some (.int .i64 aId), .int .i64 aId), (some (.int .i64 aId), .int .i64 aId), (some (.int .i64 bId), .int .i64 bId), (some (.int .i64 bId), .int .i64 bId), (some (.int .i64 bId), .int .i64 bId), (some (.int .i64 bId), .int .i64 bId), (some (.bool (known (aNull) (aTau) (aOid) (aR) (aDelta) (aId))), .bool true), (some (.bool (known (bNull) (bTau) (bOid) (bR) (bDelta) (bId))), .bool true), (some (.int .i64 (ord3 ((lev0 (aNull) (aTau) (aOid) (aR) (aDelta) (aId))) ((lev1 (aNull) (aTau) (aOid) (aR) (aDelta) (aId))) ((lev2 (aNull) (aTau) (aOid) (aR) (aDelta) (aId))) ((lev0 (bNull) (bTau) (bOid) (bR) (bDelta) (bId))) ((lev1 (bNull) (bTau) (bOid) (bR) (bDelta) (bId))) ((lev2 (bNull) (bTau) (bOid) (bR) (bDelta) (bId))))), .int .i64 (-1)), (some (.int .i64 (cmp3 (aDelta) (bDelta))), .int .i64 (-1)), (some (.int .i64 (cmp3 (aId) (bId))), .int .i64 (0))]) (by kernel_rfl) (Met.cons rfl (Met.cons rfl (Met.cons rfl (Met.cons rfl (Met.cons rfl (Met.cons rfl (Met.cons rfl (Met.cons rfl (Met.cons rfl (Met.cons rfl (Met.cons rfl (Met.cons rfl (Met.cons rfl (Met.cons rfl (Met.cons rfl (Met.cons (met_bool h0) (Met.cons (met_bool h1) (Met.cons (enumN h2) (Met.cons (enumN h3) (Met.cons (enumZ (threecmp3 ..) h4 h5) (Met.nil)))))))))))))))))))))
        | false =>
          cases h4 : ((cmp3 (aDelta) (bDelta)) == 1) with
          | true =>
            cases h5 : ((cmp3 (aId) (bId)) == -1) with
            | true =>
              have e : tLess aNull aTau aOid aR aDelta aId bNull bTau bOid bR bDelta bId = (.bool true) := by simp only [tLess, h0, h1, h2, h3, h4, h5, cond_true, cond_false]
              rw [e]
              exact callQ_run [(6, .bool true), (9, .bool true), (16, .int .i64 (-1)), (21, .int .i64 (1)), (26, .int .i64 (-1))] (q := [(some (.agg #[.bool bNull, .int .i64 bTau, .int .i64 bOid, .int .i64 bR, .int .i64 bDelta, .int .i64 bId]), .agg #[.bool bNull, .int .i64 bTau, .int .i64 bOid, .int .i64 bR, .int .i64 bDelta, .int .i64 bId]), (some (.int .i64 aDelta), .int .i64 aDelta), (some (.int .i64 aDelta), .int .i64 aDelta), (some (.int .i64 aDelta), .int .i64 aDelta), (some (.int .i64 bDelta), .int .i64 bDelta), (some (.int .i64 bDelta), .int .i64 bDelta), (some (.int .i64 bDelta), .int .i64 bDelta), (some (.int .i64 aId), .int .i64 aId), (some (.int .i64 aId), .int .i64 aId), (some (.int .i64 aId), .int .i64 aId), (some (.int .i64 aId), .int .i64 aId), (some (.int .i64 bId), .int .i64 bId), (some (.int .i64 bId), .int .i64 bId), (some (.int .i64 bId), .int .i64 bId), (some (.int .i64 bId), .int .i64 bId), (some (.bool (known (aNull) (aTau) (aOid) (aR) (aDelta) (aId))), .bool true), (some (.bool (known (bNull) (bTau) (bOid) (bR) (bDelta) (bId))), .bool true), (some (.int .i64 (ord3 ((lev0 (aNull) (aTau) (aOid) (aR) (aDelta) (aId))) ((lev1 (aNull) (aTau) (aOid) (aR) (aDelta) (aId))) ((lev2 (aNull) (aTau) (aOid) (aR) (aDelta) (aId))) ((lev0 (bNull) (bTau) (bOid) (bR) (bDelta) (bId))) ((lev1 (bNull) (bTau) (bOid) (bR) (bDelta) (bId))) ((lev2 (bNull) (bTau) (bOid) (bR) (bDelta) (bId))))), .int .i64 (-1)), (some (.int .i64 (cmp3 (aDelta) (bDelta))), .int .i64 (1)), (some (.int .i64 (cmp3 (aId) (bId))), .int .i64 (-1))]) (by kernel_rfl) (Met.cons rfl (Met.cons rfl (Met.cons rfl (Met.cons rfl (Met.cons rfl (Met.cons rfl (Met.cons rfl (Met.cons rfl (Met.cons rfl (Met.cons rfl (Met.cons rfl (Met.cons rfl (Met.cons rfl (Met.cons rfl (Met.cons rfl (Met.cons (met_bool h0) (Met.cons (met_bool h1) (Met.cons (enumN h2) (Met.cons (enumP h4) (Met.cons (enumN h5) (Met.nil)))))))))))))))))))))
            | false =>
              cases h6 : ((cmp3 (aId) (bId)) == 1) with
              | true =>
                have e : tLess aNull aTau aOid aR aDelta aId bNull bTau bOid bR bDelta bId = (.bool true) := by simp only [tLess, h0, h1, h2, h3, h4, h5, h6, cond_true, cond_false]
                rw [e]
                exact callQ_run [(6, .bool true), (9, .bool true), (16, .int .i64 (-1)), (21, .int .i64 (1)), (26, .int .i64 (1))] (q := [(some (.agg #[.bool bNull, .int .i64 bTau, .int .i64 bOid, .int .i64 bR, .int .i64 bDelta, .int .i64 bId]), .agg #[.bool bNull, .int .i64 bTau, .int .i64 bOid, .int .i64 bR, .int .i64 bDelta, .int .i64 bId]), (some (.int .i64 aDelta), .int .i64 aDelta), (some (.int .i64 aDelta), .int .i64 aDelta), (some (.int .i64 aDelta), .int .i64 aDelta), (some (.int .i64 bDelta), .int .i64 bDelta), (some (.int .i64 bDelta), .int .i64 bDelta), (some (.int .i64 bDelta), .int .i64 bDelta), (some (.int .i64 aId), .int .i64 aId), (some (.int .i64 aId), .int .i64 aId), (some (.int .i64 aId), .int .i64 aId), (some (.int .i64 aId), .int .i64 aId), (some (.int .i64 bId), .int .i64 bId), (some (.int .i64 bId), .int .i64 bId), (some (.int .i64 bId), .int .i64 bId), (some (.int .i64 bId), .int .i64 bId), (some (.bool (known (aNull) (aTau) (aOid) (aR) (aDelta) (aId))), .bool true), (some (.bool (known (bNull) (bTau) (bOid) (bR) (bDelta) (bId))), .bool true), (some (.int .i64 (ord3 ((lev0 (aNull) (aTau) (aOid) (aR) (aDelta) (aId))) ((lev1 (aNull) (aTau) (aOid) (aR) (aDelta) (aId))) ((lev2 (aNull) (aTau) (aOid) (aR) (aDelta) (aId))) ((lev0 (bNull) (bTau) (bOid) (bR) (bDelta) (bId))) ((lev1 (bNull) (bTau) (bOid) (bR) (bDelta) (bId))) ((lev2 (bNull) (bTau) (bOid) (bR) (bDelta) (bId))))), .int .i64 (-1)), (some (.int .i64 (cmp3 (aDelta) (bDelta))), .int .i64 (1)), (some (.int .i64 (cmp3 (aId) (bId))), .int .i64 (1))]) (by kernel_rfl) (Met.cons rfl (Met.cons rfl (Met.cons rfl (Met.cons rfl (Met.cons rfl (Met.cons rfl (Met.cons rfl (Met.cons rfl (Met.cons rfl (Met.cons rfl (Met.cons rfl (Met.cons rfl (Met.cons rfl (Met.cons rfl (Met.cons rfl (Met.cons (met_bool h0) (Met.cons (met_bool h1) (Met.cons (enumN h2) (Met.cons (enumP h4) (Met.cons (enumP h6) (Met.nil)))))))))))))))))))))
              | false =>
                have e : tLess aNull aTau aOid aR aDelta aId bNull bTau bOid bR bDelta bId = (.bool true) := by simp only [tLess, h0, h1, h2, h3, h4, h5, h6, cond_true, cond_false]
                rw [e]
                exact callQ_run [(6, .bool true), (9, .bool true), (16, .int .i64 (-1)), (21, .int .i64 (1)), (26, .int .i64 (0))] (q := [(some (.agg #[.bool bNull, .int .i64 bTau, .int .i64 bOid, .int .i64 bR, .int .i64 bDelta, .int .i64 bId]), .agg #[.bool bNull, .int .i64 bTau, .int .i64 bOid, .int .i64 bR, .int .i64 bDelta, .int .i64 bId]), (some (.int .i64 aDelta), .int .i64 aDelta), (some (.int .i64 aDelta), .int .i64 aDelta), (some (.int .i64 aDelta), .int .i64 aDelta), (some (.int .i64 bDelta), .int .i64 bDelta), (some (.int .i64 bDelta), .int .i64 bDelta), (some (.int .i64 bDelta), .int .i64 bDelta), (some (.int .i64 aId), .int .i64 aId), (some (.int .i64 aId), .int .i64 aId), (some (.int .i64 aId), .int .i64 aId), (some (.int .i64 aId), .int .i64 aId), (some (.int .i64 bId), .int .i64 bId), (some (.int .i64 bId), .int .i64 bId), (some (.int .i64 bId), .int .i64 bId), (some (.int .i64 bId), .int .i64 bId), (some (.bool (known (aNull) (aTau) (aOid) (aR) (aDelta) (aId))), .bool true), (some (.bool (known (bNull) (bTau) (bOid) (bR) (bDelta) (bId))), .bool true), (some (.int .i64 (ord3 ((lev0 (aNull) (aTau) (aOid) (aR) (aDelta) (aId))) ((lev1 (aNull) (aTau) (aOid) (aR) (aDelta) (aId))) ((lev2 (aNull) (aTau) (aOid) (aR) (aDelta) (aId))) ((lev0 (bNull) (bTau) (bOid) (bR) (bDelta) (bId))) ((lev1 (bNull) (bTau) (bOid) (bR) (bDelta) (bId))) ((lev2 (bNull) (bTau) (bOid) (bR) (bDelta) (bId))))), .int .i64 (-1)), (some (.int .i64 (cmp3 (aDelta) (bDelta))), .int .i64 (1)), (some (.int .i64 (cmp3 (aId) (bId))), .int .i64 (0))]) (by kernel_rfl) (Met.cons rfl (Met.cons rfl (Met.cons rfl (Met.cons rfl (Met.cons rfl (Met.cons rfl (Met.cons rfl (Met.cons rfl (Met.cons rfl (Met.cons rfl (Met.cons rfl (Met.cons rfl (Met.cons rfl (Met.cons rfl (Met.cons rfl (Met.cons (met_bool h0) (Met.cons (met_bool h1) (Met.cons (enumN h2) (Met.cons (enumP h4) (Met.cons (enumZ (threecmp3 ..) h5 h6) (Met.nil)))))))))))))))))))))
          | false =>
            cases h5 : ((cmp3 (aId) (bId)) == -1) with
            | true =>
              have e : tLess aNull aTau aOid aR aDelta aId bNull bTau bOid bR bDelta bId = (.bool true) := by simp only [tLess, h0, h1, h2, h3, h4, h5, cond_true, cond_false]
              rw [e]
              exact callQ_run [(6, .bool true), (9, .bool true), (16, .int .i64 (-1)), (21, .int .i64 (0)), (26, .int .i64 (-1))] (q := [(some (.agg #[.bool bNull, .int .i64 bTau, .int .i64 bOid, .int .i64 bR, .int .i64 bDelta, .int .i64 bId]), .agg #[.bool bNull, .int .i64 bTau, .int .i64 bOid, .int .i64 bR, .int .i64 bDelta, .int .i64 bId]), (some (.int .i64 aDelta), .int .i64 aDelta), (some (.int .i64 aDelta), .int .i64 aDelta), (some (.int .i64 aDelta), .int .i64 aDelta), (some (.int .i64 bDelta), .int .i64 bDelta), (some (.int .i64 bDelta), .int .i64 bDelta), (some (.int .i64 bDelta), .int .i64 bDelta), (some (.int .i64 aId), .int .i64 aId), (some (.int .i64 aId), .int .i64 aId), (some (.int .i64 aId), .int .i64 aId), (some (.int .i64 aId), .int .i64 aId), (some (.int .i64 bId), .int .i64 bId), (some (.int .i64 bId), .int .i64 bId), (some (.int .i64 bId), .int .i64 bId), (some (.int .i64 bId), .int .i64 bId), (some (.bool (known (aNull) (aTau) (aOid) (aR) (aDelta) (aId))), .bool true), (some (.bool (known (bNull) (bTau) (bOid) (bR) (bDelta) (bId))), .bool true), (some (.int .i64 (ord3 ((lev0 (aNull) (aTau) (aOid) (aR) (aDelta) (aId))) ((lev1 (aNull) (aTau) (aOid) (aR) (aDelta) (aId))) ((lev2 (aNull) (aTau) (aOid) (aR) (aDelta) (aId))) ((lev0 (bNull) (bTau) (bOid) (bR) (bDelta) (bId))) ((lev1 (bNull) (bTau) (bOid) (bR) (bDelta) (bId))) ((lev2 (bNull) (bTau) (bOid) (bR) (bDelta) (bId))))), .int .i64 (-1)), (some (.int .i64 (cmp3 (aDelta) (bDelta))), .int .i64 (0)), (some (.int .i64 (cmp3 (aId) (bId))), .int .i64 (-1))]) (by kernel_rfl) (Met.cons rfl (Met.cons rfl (Met.cons rfl (Met.cons rfl (Met.cons rfl (Met.cons rfl (Met.cons rfl (Met.cons rfl (Met.cons rfl (Met.cons rfl (Met.cons rfl (Met.cons rfl (Met.cons rfl (Met.cons rfl (Met.cons rfl (Met.cons (met_bool h0) (Met.cons (met_bool h1) (Met.cons (enumN h2) (Met.cons (enumZ (threecmp3 ..) h3 h4) (Met.cons (enumN h5) (Met.nil)))))))))))))))))))))
            | false =>
              cases h6 : ((cmp3 (aId) (bId)) == 1) with
              | true =>
                have e : tLess aNull aTau aOid aR aDelta aId bNull bTau bOid bR bDelta bId = (.bool true) := by simp only [tLess, h0, h1, h2, h3, h4, h5, h6, cond_true, cond_false]
                rw [e]
                exact callQ_run [(6, .bool true), (9, .bool true), (16, .int .i64 (-1)), (21, .int .i64 (0)), (26, .int .i64 (1))] (q := [(some (.agg #[.bool bNull, .int .i64 bTau, .int .i64 bOid, .int .i64 bR, .int .i64 bDelta, .int .i64 bId]), .agg #[.bool bNull, .int .i64 bTau, .int .i64 bOid, .int .i64 bR, .int .i64 bDelta, .int .i64 bId]), (some (.int .i64 aDelta), .int .i64 aDelta), (some (.int .i64 aDelta), .int .i64 aDelta), (some (.int .i64 aDelta), .int .i64 aDelta), (some (.int .i64 bDelta), .int .i64 bDelta), (some (.int .i64 bDelta), .int .i64 bDelta), (some (.int .i64 bDelta), .int .i64 bDelta), (some (.int .i64 aId), .int .i64 aId), (some (.int .i64 aId), .int .i64 aId), (some (.int .i64 aId), .int .i64 aId), (some (.int .i64 aId), .int .i64 aId), (some (.int .i64 bId), .int .i64 bId), (some (.int .i64 bId), .int .i64 bId), (some (.int .i64 bId), .int .i64 bId), (some (.int .i64 bId), .int .i64 bId), (some (.bool (known (aNull) (aTau) (aOid) (aR) (aDelta) (aId))), .bool true), (some (.bool (known (bNull) (bTau) (bOid) (bR) (bDelta) (bId))), .bool true), (some (.int .i64 (ord3 ((lev0 (aNull) (aTau) (aOid) (aR) (aDelta) (aId))) ((lev1 (aNull) (aTau) (aOid) (aR) (aDelta) (aId))) ((lev2 (aNull) (aTau) (aOid) (aR) (aDelta) (aId))) ((lev0 (bNull) (bTau) (bOid) (bR) (bDelta) (bId))) ((lev1 (bNull) (bTau) (bOid) (bR) (bDelta) (bId))) ((lev2 (bNull) (bTau) (bOid) (bR) (bDelta) (bId))))), .int .i64 (-1)), (some (.int .i64 (cmp3 (aDelta) (bDelta))), .int .i64 (0)), (some (.int .i64 (cmp3 (aId) (bId))), .int .i64 (1))]) (by kernel_rfl) (Met.cons rfl (Met.cons rfl (Met.cons rfl (Met.cons rfl (Met.cons rfl (Met.cons rfl (Met.cons rfl (Met.cons rfl (Met.cons rfl (Met.cons rfl (Met.cons rfl (Met.cons rfl (Met.cons rfl (Met.cons rfl (Met.cons rfl (Met.cons (met_bool h0) (Met.cons (met_bool h1) (Met.cons (enumN h2) (Met.cons (enumZ (threecmp3 ..) h3 h4) (Met.cons (enumP h6) (Met.nil)))))))))))))))))))))
              | false =>
                have e : tLess aNull aTau aOid aR aDelta aId bNull bTau bOid bR bDelta bId = (.bool true) := by simp only [tLess, h0, h1, h2, h3, h4, h5, h6, cond_true, cond_false]
                rw [e]
                exact callQ_run [(6, .bool true), (9, .bool true), (16, .int .i64 (-1)), (21, .int .i64 (0)), (26, .int .i64 (0))] (q := [(some (.agg #[.bool bNull, .int .i64 bTau, .int .i64 bOid, .int .i64 bR, .int .i64 bDelta, .int .i64 bId]), .agg #[.bool bNull, .int .i64 bTau, .int .i64 bOid, .int .i64 bR, .int .i64 bDelta, .int .i64 bId]), (some (.int .i64 aDelta), .int .i64 aDelta), (some (.int .i64 aDelta), .int .i64 aDelta), (some (.int .i64 aDelta), .int .i64 aDelta), (some (.int .i64 bDelta), .int .i64 bDelta), (some (.int .i64 bDelta), .int .i64 bDelta), (some (.int .i64 bDelta), .int .i64 bDelta), (some (.int .i64 aId), .int .i64 aId), (some (.int .i64 aId), .int .i64 aId), (some (.int .i64 aId), .int .i64 aId), (some (.int .i64 aId), .int .i64 aId), (some (.int .i64 bId), .int .i64 bId), (some (.int .i64 bId), .int .i64 bId), (some (.int .i64 bId), .int .i64 bId), (some (.int .i64 bId), .int .i64 bId), (some (.bool (known (aNull) (aTau) (aOid) (aR) (aDelta) (aId))), .bool true), (some (.bool (known (bNull) (bTau) (bOid) (bR) (bDelta) (bId))), .bool true), (some (.int .i64 (ord3 ((lev0 (aNull) (aTau) (aOid) (aR) (aDelta) (aId))) ((lev1 (aNull) (aTau) (aOid) (aR) (aDelta) (aId))) ((lev2 (aNull) (aTau) (aOid) (aR) (aDelta) (aId))) ((lev0 (bNull) (bTau) (bOid) (bR) (bDelta) (bId))) ((lev1 (bNull) (bTau) (bOid) (bR) (bDelta) (bId))) ((lev2 (bNull) (bTau) (bOid) (bR) (bDelta) (bId))))), .int .i64 (-1)), (some (.int .i64 (cmp3 (aDelta) (bDelta))), .int .i64 (0)), (some (.int .i64 (cmp3 (aId) (bId))), .int .i64 (0))]) (by kernel_rfl) (Met.cons rfl (Met.cons rfl (Met.cons rfl (Met.cons rfl (Met.cons rfl (Met.cons rfl (Met.cons rfl (Met.cons rfl (Met.cons rfl (Met.cons rfl (Met.cons rfl (Met.cons rfl (Met.cons rfl (Met.cons rfl (Met.cons rfl (Met.cons (met_bool h0) (Met.cons (met_bool h1) (Met.cons (enumN h2) (Met.cons (enumZ (threecmp3 ..) h3 h4) (Met.cons (enumZ (threecmp3 ..) h5 h6) (Met.nil)))))))))))))))))))))
      | false =>
        cases h3 : ((ord3 ((lev0 (aNull) (aTau) (aOid) (aR) (aDelta) (aId))) ((lev1 (aNull) (aTau) (aOid) (aR) (aDelta) (aId))) ((lev2 (aNull) (aTau) (aOid) (aR) (aDelta) (aId))) ((lev0 (bNull) (bTau) (bOid) (bR) (bDelta) (bId))) ((lev1 (bNull) (bTau) (bOid) (bR) (bDelta) (bId))) ((lev2 (bNull) (bTau) (bOid) (bR) (bDelta) (bId)))) == 1) with
        | true =>
          cases h4 : ((cmp3 (aDelta) (bDelta)) == -1) with
          | true =>
            cases h5 : ((cmp3 (aId) (bId)) == -1) with
            | true =>
              have e : tLess aNull aTau aOid aR aDelta aId bNull bTau bOid bR bDelta bId = (.bool false) := by simp only [tLess, h0, h1, h2, h3, h4, h5, cond_true, cond_false]
              rw [e]
              exact callQ_run [(6, .bool true), (9, .bool true), (16, .int .i64 (1)), (21, .int .i64 (-1)), (26, .int .i64 (-1))] (q := [(some (.agg #[.bool bNull, .int .i64 bTau, .int .i64 bOid, .int .i64 bR, .int .i64 bDelta, .int .i64 bId]), .agg #[.bool bNull, .int .i64 bTau, .int .i64 bOid, .int .i64 bR, .int .i64 bDelta, .int .i64 bId]), (some (.int .i64 aDelta), .int .i64 aDelta), (some (.int .i64 aDelta), .int .i64 aDelta), (some (.int .i64 aDelta), .int .i64 aDelta), (some (.int .i64 bDelta), .int .i64 bDelta), (some (.int .i64 bDelta), .int .i64 bDelta), (some (.int .i64 bDelta), .int .i64 bDelta), (some (.int .i64 aId), .int .i64 aId), (some (.int .i64 aId), .int .i64 aId), (some (.int .i64 aId), .int .i64 aId), (some (.int .i64 aId), .int .i64 aId), (some (.int .i64 bId), .int .i64 bId), (some (.int .i64 bId), .int .i64 bId), (some (.int .i64 bId), .int .i64 bId), (some (.int .i64 bId), .int .i64 bId), (some (.bool (known (aNull) (aTau) (aOid) (aR) (aDelta) (aId))), .bool true), (some (.bool (known (bNull) (bTau) (bOid) (bR) (bDelta) (bId))), .bool true), (some (.int .i64 (ord3 ((lev0 (aNull) (aTau) (aOid) (aR) (aDelta) (aId))) ((lev1 (aNull) (aTau) (aOid) (aR) (aDelta) (aId))) ((lev2 (aNull) (aTau) (aOid) (aR) (aDelta) (aId))) ((lev0 (bNull) (bTau) (bOid) (bR) (bDelta) (bId))) ((lev1 (bNull) (bTau) (bOid) (bR) (bDelta) (bId))) ((lev2 (bNull) (bTau) (bOid) (bR) (bDelta) (bId))))), .int .i64 (1)), (some (.int .i64 (cmp3 (aDelta) (bDelta))), .int .i64 (-1)), (some (.int .i64 (cmp3 (aId) (bId))), .int .i64 (-1))]) (by kernel_rfl) (Met.cons rfl (Met.cons rfl (Met.cons rfl (Met.cons rfl (Met.cons rfl (Met.cons rfl (Met.cons rfl (Met.cons rfl (Met.cons rfl (Met.cons rfl (Met.cons rfl (Met.cons rfl (Met.cons rfl (Met.cons rfl (Met.cons rfl (Met.cons (met_bool h0) (Met.cons (met_bool h1) (Met.cons (enumP h3) (Met.cons (enumN h4) (Met.cons (enumN h5) (Met.nil)))))))))))))))))))))
            | false =>
              cases h6 : ((cmp3 (aId) (bId)) == 1) with
              | true =>
                have e : tLess aNull aTau aOid aR aDelta aId bNull bTau bOid bR bDelta bId = (.bool false) := by simp only [tLess, h0, h1, h2, h3, h4, h5, h6, cond_true, cond_false]
                rw [e]
                exact callQ_run [(6, .bool true), (9, .bool true), (16, .int .i64 (1)), (21, .int .i64 (-1)), (26, .int .i64 (1))] (q := [(some (.agg #[.bool bNull, .int .i64 bTau, .int .i64 bOid, .int .i64 bR, .int .i64 bDelta, .int .i64 bId]), .agg #[.bool bNull, .int .i64 bTau, .int .i64 bOid, .int .i64 bR, .int .i64 bDelta, .int .i64 bId]), (some (.int .i64 aDelta), .int .i64 aDelta), (some (.int .i64 aDelta), .int .i64 aDelta), (some (.int .i64 aDelta), .int .i64 aDelta), (some (.int .i64 bDelta), .int .i64 bDelta), (some (.int .i64 bDelta), .int .i64 bDelta), (some (.int .i64 bDelta), .int .i64 bDelta), (some (.int .i64 aId), .int .i64 aId), (some (.int .i64 aId), .int .i64 aId), (some (.int .i64 aId), .int .i64 aId), (some (.int .i64 aId), .int .i64 aId), (some (.int .i64 bId), .int .i64 bId), (some (.int .i64 bId), .int .i64 bId), (some (.int .i64 bId), .int .i64 bId), (some (.int .i64 bId), .int .i64 bId), (some (.bool (known (aNull) (aTau) (aOid) (aR) (aDelta) (aId))), .bool true), (some (.bool (known (bNull) (bTau) (bOid) (bR) (bDelta) (bId))), .bool true), (some (.int .i64 (ord3 ((lev0 (aNull) (aTau) (aOid) (aR) (aDelta) (aId))) ((lev1 (aNull) (aTau) (aOid) (aR) (aDelta) (aId))) ((lev2 (aNull) (aTau) (aOid) (aR) (aDelta) (aId))) ((lev0 (bNull) (bTau) (bOid) (bR) (bDelta) (bId))) ((lev1 (bNull) (bTau) (bOid) (bR) (bDelta) (bId))) ((lev2 (bNull) (bTau) (bOid) (bR) (bDelta) (bId))))), .int .i64 (1)), (some (.int .i64 (cmp3 (aDelta) (bDelta))), .int .i64 (-1)), (some (.int .i64 (cmp3 (aId) (bId))), .int .i64 (1))]) (by kernel_rfl) (Met.cons rfl (Met.cons rfl (Met.cons rfl (Met.cons rfl (Met.cons rfl (Met.cons rfl (Met.cons rfl (Met.cons rfl (Met.cons rfl (Met.cons rfl (Met.cons rfl (Met.cons rfl (Met.cons rfl (Met.cons rfl (Met.cons rfl (Met.cons (met_bool h0) (Met.cons (met_bool h1) (Met.cons (enumP h3) (Met.cons (enumN h4) (Met.cons (enumP h6) (Met.nil)))))))))))))))))))))
              | false =>
                have e : tLess aNull aTau aOid aR aDelta aId bNull bTau bOid bR bDelta bId = (.bool false) := by simp only [tLess, h0, h1, h2, h3, h4, h5, h6, cond_true, cond_false]
                rw [e]
                exact callQ_run [(6, .bool true), (9, .bool true), (16, .int .i64 (1)), (21, .int .i64 (-1)), (26, .int .i64 (0))] (q := [(some (.agg #[.bool bNull, .int .i64 bTau, .int .i64 bOid, .int .i64 bR, .int .i64 bDelta, .int .i64 bId]), .agg #[.bool bNull, .int .i64 bTau, .int .i64 bOid, .int .i64 bR, .int .i64 bDelta, .int .i64 bId]), (some (.int .i64 aDelta), .int .i64 aDelta), (some (.int .i64 aDelta), .int .i64 aDelta), (some (.int .i64 aDelta), .int .i64 aDelta), (some (.int .i64 bDelta), .int .i64 bDelta), (some (.int .i64 bDelta), .int .i64 bDelta), (some (.int .i64 bDelta), .int .i64 bDelta), (some (.int .i64 aId), .int .i64 aId), (some (.int .i64 aId), .int .i64 aId), (some (.int .i64 aId), .int .i64 aId), (some (.int .i64 aId), .int .i64 aId), (some (.int .i64 bId), .int .i64 bId), (some (.int .i64 bId), .int .i64 bId), (some (.int .i64 bId), .int .i64 bId), (some (.int .i64 bId), .int .i64 bId), (some (.bool (known (aNull) (aTau) (aOid) (aR) (aDelta) (aId))), .bool true), (some (.bool (known (bNull) (bTau) (bOid) (bR) (bDelta) (bId))), .bool true), (some (.int .i64 (ord3 ((lev0 (aNull) (aTau) (aOid) (aR) (aDelta) (aId))) ((lev1 (aNull) (aTau) (aOid) (aR) (aDelta) (aId))) ((lev2 (aNull) (aTau) (aOid) (aR) (aDelta) (aId))) ((lev0 (bNull) (bTau) (bOid) (bR) (bDelta) (bId))) ((lev1 (bNull) (bTau) (bOid) (bR) (bDelta) (bId))) ((lev2 (bNull) (bTau) (bOid) (bR) (bDelta) (bId))))), .int .i64 (1)), (some (.int .i64 (cmp3 (aDelta) (bDelta))), .int .i64 (-1)), (some (.int .i64 (cmp3 (aId) (bId))), .int .i64 (0))]) (by kernel_rfl) (Met.cons rfl (Met.cons rfl (Met.cons rfl (Met.cons rfl (Met.cons rfl (Met.cons rfl (Met.cons rfl (Met.cons rfl (Met.cons rfl (Met.cons rfl (Met.cons rfl (Met.cons rfl (Met.cons rfl (Met.cons rfl (Met.cons rfl (Met.cons (met_bool h0) (Met.cons (met_bool h1) (Met.cons (enumP h3) (Met.cons (enumN h4) (Met.cons (enumZ (threecmp3 ..) h5 h6) (Met.nil)))))))))))))))))))))
          | false =>
            cases h5 : ((cmp3 (aDelta) (bDelta)) == 1) with
            | true =>
              cases h6 : ((cmp3 (aId) (bId)) == -1) with
              | true =>
                have e : tLess aNull aTau aOid aR aDelta aId bNull bTau bOid bR bDelta bId = (.bool false) := by simp only [tLess, h0, h1, h2, h3, h4, h5, h6, cond_true, cond_false]
                rw [e]
                exact callQ_run [(6, .bool true), (9, .bool true), (16, .int .i64 (1)), (21, .int .i64 (1)), (26, .int .i64 (-1))] (q := [(some (.agg #[.bool bNull, .int .i64 bTau, .int .i64 bOid, .int .i64 bR, .int .i64 bDelta, .int .i64 bId]), .agg #[.bool bNull, .int .i64 bTau, .int .i64 bOid, .int .i64 bR, .int .i64 bDelta, .int .i64 bId]), (some (.int .i64 aDelta), .int .i64 aDelta), (some (.int .i64 aDelta), .int .i64 aDelta), (some (.int .i64 aDelta), .int .i64 aDelta), (some (.int .i64 bDelta), .int .i64 bDelta), (some (.int .i64 bDelta), .int .i64 bDelta), (some (.int .i64 bDelta), .int .i64 bDelta), (some (.int .i64 aId), .int .i64 aId), (some (.int .i64 aId), .int .i64 aId), (some (.int .i64 aId), .int .i64 aId), (some (.int .i64 aId), .int .i64 aId), (some (.int .i64 bId), .int .i64 bId), (some (.int .i64 bId), .int .i64 bId), (some (.int .i64 bId), .int .i64 bId), (some (.int .i64 bId), .int .i64 bId), (some (.bool (known (aNull) (aTau) (aOid) (aR) (aDelta) (aId))), .bool true), (some (.bool (known (bNull) (bTau) (bOid) (bR) (bDelta) (bId))), .bool true), (some (.int .i64 (ord3 ((lev0 (aNull) (aTau) (aOid) (aR) (aDelta) (aId))) ((lev1 (aNull) (aTau) (aOid) (aR) (aDelta) (aId))) ((lev2 (aNull) (aTau) (aOid) (aR) (aDelta) (aId))) ((lev0 (bNull) (bTau) (bOid) (bR) (bDelta) (bId))) ((lev1 (bNull) (bTau) (bOid) (bR) (bDelta) (bId))) ((lev2 (bNull) (bTau) (bOid) (bR) (bDelta) (bId))))), .int .i64 (1)), (some (.int .i64 (cmp3 (aDelta) (bDelta))), .int .i64 (1)), (some (.int .i64 (cmp3 (aId) (bId))), .int .i64 (-1))]) (by kernel_rfl) (Met.cons rfl (Met.cons rfl (Met.cons rfl (Met.cons rfl (Met.cons rfl (Met.cons rfl (Met.cons rfl (Met.cons rfl (Met.cons rfl (Met.cons rfl (Met.cons rfl (Met.cons rfl (Met.cons rfl (Met.cons rfl (Met.cons rfl (Met.cons (met_bool h0) (Met.cons (met_bool h1) (Met.cons (enumP h3) (Met.cons (enumP h5) (Met.cons (enumN h6) (Met.nil)))))))))))))))))))))
              | false =>
                cases h7 : ((cmp3 (aId) (bId)) == 1) with
                | true =>
                  have e : tLess aNull aTau aOid aR aDelta aId bNull bTau bOid bR bDelta bId = (.bool false) := by simp only [tLess, h0, h1, h2, h3, h4, h5, h6, h7, cond_true, cond_false]
                  rw [e]
                  exact callQ_run [(6, .bool true), (9, .bool true), (16, .int .i64 (1)), (21, .int .i64 (1)), (26, .int .i64 (1))] (q := [(some (.agg #[.bool bNull, .int .i64 bTau, .int .i64 bOid, .int .i64 bR, .int .i64 bDelta, .int .i64 bId]), .agg #[.bool bNull, .int .i64 bTau, .int .i64 bOid, .int .i64 bR, .int .i64 bDelta, .int .i64 bId]), (some (.int .i64 aDelta), .int .i64 aDelta), (some (.int .i64 aDelta), .int .i64 aDelta), (some (.int .i64 aDelta), .int .i64 aDelta), (some (.int .i64 bDelta), .int .i64 bDelta), (some (.int .i64 bDelta), .int .i64 bDelta), (some (.int .i64 bDelta), .int .i64 bDelta), (some (.int .i64 aId), .int .i64 aId), (some (.int .i64 aId), .int .i64 aId), (some (.int .i64 aId), .int .i64 aId), (some (.int .i64 aId), .int .i64 aId), (some (.int .i64 bId), .int .i64 bId), (some (.int .i64 bId), .int .i64 bId), (some (.int .i64 bId), .int .i64 bId), (some (.int .i64 bId), .int .i64 bId), (some (.bool (known (aNull) (aTau) (aOid) (aR) (aDelta) (aId))), .bool true), (some (.bool (known (bNull) (bTau) (bOid) (bR) (bDelta) (bId))), .bool true), (some (.int .i64 (ord3 ((lev0 (aNull) (aTau) (aOid) (aR) (aDelta) (aId))) ((lev1 (aNull) (aTau) (aOid) (aR) (aDelta) (aId))) ((lev2 (aNull) (aTau) (aOid) (aR) (aDelta) (aId))) ((lev0 (bNull) (bTau) (bOid) (bR) (bDelta) (bId))) ((lev1 (bNull) (bTau) (bOid) (bR) (bDelta) (bId))) ((lev2 (bNull) (bTau) (bOid) (bR) (bDelta) (bId))))), .int .i64 (1)), (some (.int .i64 (cmp3 (aDelta) (bDelta))), .int .i64 (1)), (some (.int .i64 (cmp3 (aId) (bId))), .int .i64 (1))]) (by kernel_rfl) (Met.cons rfl (Met.cons rfl (Met.cons rfl (Met.cons rfl (Met.cons rfl (Met.cons rfl (Met.cons rfl (Met.cons rfl (Met.cons rfl (Met.cons rfl (Met.cons rfl (Met.cons rfl (Met.cons rfl (Met.cons rfl (Met.cons rfl (Met.cons (met_bool h0) (Met.cons (met_bool h1) (Met.cons (enumP h3) (Met.cons (enumP h5) (Met.cons (enumP h7) (Met.nil)))))))))))))))))))))
                | false =>
                  have e : tLess aNull aTau aOid aR aDelta aId bNull bTau bOid bR bDelta bId = (.bool false) := by simp only [tLess, h0, h1, h2, h3, h4, h5, h6, h7, cond_true, cond_false]
                  rw [e]
                  exact callQ_run [(6, .bool true), (9, .bool true), (16, .int .i64 (1)), (21, .int .i64 (1)), (26, .int .i64 (0))] (q := [(some (.agg #[.bool bNull, .int .i64 bTau, .int .i64 bOid, .int .i64 bR, .int .i64 bDelta, .int .i64 bId]), .agg #[.bool bNull, .int .i64 bTau, .int .i64 bOid, .int .i64 bR, .int .i64 bDelta, .int .i64 bId]), (some (.int .i64 aDelta), .int .i64 aDelta), (some (.int .i64 aDelta), .int .i64 aDelta), (some (.int .i64 aDelta), .int .i64 aDelta), (some (.int .i64 bDelta), .int .i64 bDelta), (some (.int .i64 bDelta), .int .i64 bDelta), (some (.int .i64 bDelta), .int .i64 bDelta), (some (.int .i64 aId), .int .i64 aId), (some (.int .i64 aId), .int .i64 aId), (some (.int .i64 aId), .int .i64 aId), (some (.int .i64 aId), .int .i64 aId), (some (.int .i64 bId), .int .i64 bId), (some (.int .i64 bId), .int .i64 bId), (some (.int .i64 bId), .int .i64 bId), (some (.int .i64 bId), .int .i64 bId), (some (.bool (known (aNull) (aTau) (aOid) (aR) (aDelta) (aId))), .bool true), (some (.bool (known (bNull) (bTau) (bOid) (bR) (bDelta) (bId))), .bool true), (some (.int .i64 (ord3 ((lev0 (aNull) (aTau) (aOid) (aR) (aDelta) (aId))) ((lev1 (aNull) (aTau) (aOid) (aR) (aDelta) (aId))) ((lev2 (aNull) (aTau) (aOid) (aR) (aDelta) (aId))) ((lev0 (bNull) (bTau) (bOid) (bR) (bDelta) (bId))) ((lev1 (bNull) (bTau) (bOid) (bR) (bDelta) (bId))) ((lev2 (bNull) (bTau) (bOid) (bR) (bDelta) (bId))))), .int .i64 (1)), (some (.int .i64 (cmp3 (aDelta) (bDelta))), .int .i64 (1)), (some (.int .i64 (cmp3 (aId) (bId))), .int .i64 (0))]) (by kernel_rfl) (Met.cons rfl (Met.cons rfl (Met.cons rfl (Met.cons rfl (Met.cons rfl (Met.cons rfl (Met.cons rfl (Met.cons rfl (Met.cons rfl (Met.cons rfl (Met.cons rfl (Met.cons rfl (Met.cons rfl (Met.cons rfl (Met.cons rfl (Met.cons (met_bool h0) (Met.cons (met_bool h1) (Met.cons (enumP h3) (Met.cons (enumP h5) (Met.cons (enumZ (threecmp3 ..) h6 h7) (Met.nil)))))))))))))))))))))
            | false =>
              cases h6 : ((cmp3 (aId) (bId)) == -1) with
              | true =>
                have e : tLess aNull aTau aOid aR aDelta aId bNull bTau bOid bR bDelta bId = (.bool false) := by simp only [tLess, h0, h1, h2, h3, h4, h5, h6, cond_true, cond_false]
                rw [e]
                exact callQ_run [(6, .bool true), (9, .bool true), (16, .int .i64 (1)), (21, .int .i64 (0)), (26, .int .i64 (-1))] (q := [(some (.agg #[.bool bNull, .int .i64 bTau, .int .i64 bOid, .int .i64 bR, .int .i64 bDelta, .int .i64 bId]), .agg #[.bool bNull, .int .i64 bTau, .int .i64 bOid, .int .i64 bR, .int .i64 bDelta, .int .i64 bId]), (some (.int .i64 aDelta), .int .i64 aDelta), (some (.int .i64 aDelta), .int .i64 aDelta), (some (.int .i64 aDelta), .int .i64 aDelta), (some (.int .i64 bDelta), .int .i64 bDelta), (some (.int .i64 bDelta), .int .i64 bDelta), (some (.int .i64 bDelta), .int .i64 bDelta), (some (.int .i64 aId), .int .i64 aId), (some (.int .i64 aId), .int .i64 aId), (some (.int .i64 aId), .int .i64 aId), (some (.int .i64 aId), .int .i64 aId), (some (.int .i64 bId), .int .i64 bId), (some (.int .i64 bId), .int .i64 bId), (some (.int .i64 bId), .int .i64 bId), (some (.int .i64 bId), .int .i64 bId), (some (.bool (known (aNull) (aTau) (aOid) (aR) (aDelta) (aId))), .bool true), (some (.bool (known (bNull) (bTau) (bOid) (bR) (bDelta) (bId))), .bool true), (some (.int .i64 (ord3 ((lev0 (aNull) (aTau) (aOid) (aR) (aDelta) (aId))) ((lev1 (aNull) (aTau) (aOid) (aR) (aDelta) (aId))) ((lev2 (aNull) (aTau) (aOid) (aR) (aDelta) (aId))) ((lev0 (bNull) (bTau) (bOid) (bR) (bDelta) (bId))) ((lev1 (bNull) (bTau) (bOid) (bR) (bDelta) (bId))) ((lev2 (bNull) (bTau) (bOid) (bR) (bDelta) (bId))))), .int .i64 (1)), (some (.int .i64 (cmp3 (aDelta) (bDelta))), .int .i64 (0)), (some (.int .i64 (cmp3 (aId) (bId))), .int .i64 (-1))]) (by kernel_rfl) (Met.cons rfl (Met.cons rfl (Met.cons rfl (Met.cons rfl (Met.cons rfl (Met.cons rfl (Met.cons rfl (Met.cons rfl (Met.cons rfl (Met.cons rfl (Met.cons rfl (Met.cons rfl (Met.cons rfl (Met.cons rfl (Met.cons rfl (Met.cons (met_bool h0) (Met.cons (met_bool h1) (Met.cons (enumP h3) (Met.cons (enumZ (threecmp3 ..) h4 h5) (Met.cons (enumN h6) (Met.nil)))))))))))))))))))))
              | false =>
                cases h7 : ((cmp3 (aId) (bId)) == 1) with
                | true =>
                  have e : tLess aNull aTau aOid aR aDelta aId bNull bTau bOid bR bDelta bId = (.bool false) := by simp only [tLess, h0, h1, h2, h3, h4, h5, h6, h7, cond_true, cond_false]
                  rw [e]
                  exact callQ_run [(6, .bool true), (9, .bool true), (16, .int .i64 (1)), (21, .int .i64 (0)), (26, .int .i64 (1))] (q := [(some (.agg #[.bool bNull, .int .i64 bTau, .int .i64 bOid, .int .i64 bR, .int .i64 bDelta, .int .i64 bId]), .agg #[.bool bNull, .int .i64 bTau, .int .i64 bOid, .int .i64 bR, .int .i64 bDelta, .int .i64 bId]), (some (.int .i64 aDelta), .int .i64 aDelta), (some (.int .i64 aDelta), .int .i64 aDelta), (some (.int .i64 aDelta), .int .i64 aDelta), (some (.int .i64 bDelta), .int .i64 bDelta), (some (.int .i64 bDelta), .int .i64 bDelta), (some (.int .i64 bDelta), .int .i64 bDelta), (some (.int .i64 aId), .int .i64 aId), (some (.int .i64 aId), .int .i64 aId), (some (.int .i64 aId), .int .i64 aId), (some (.int .i64 aId), .int .i64 aId), (some (.int .i64 bId), .int .i64 bId), (some (.int .i64 bId), .int .i64 bId), (some (.int .i64 bId), .int .i64 bId), (some (.int .i64 bId), .int .i64 bId), (some (.bool (known (aNull) (aTau) (aOid) (aR) (aDelta) (aId))), .bool true), (some (.bool (known (bNull) (bTau) (bOid) (bR) (bDelta) (bId))), .bool true), (some (.int .i64 (ord3 ((lev0 (aNull) (aTau) (aOid) (aR) (aDelta) (aId))) ((lev1 (aNull) (aTau) (aOid) (aR) (aDelta) (aId))) ((lev2 (aNull) (aTau) (aOid) (aR) (aDelta) (aId))) ((lev0 (bNull) (bTau) (bOid) (bR) (bDelta) (bId))) ((lev1 (bNull) (bTau) (bOid) (bR) (bDelta) (bId))) ((lev2 (bNull) (bTau) (bOid) (bR) (bDelta) (bId))))), .int .i64 (1)), (some (.int .i64 (cmp3 (aDelta) (bDelta))), .int .i64 (0)), (some (.int .i64 (cmp3 (aId) (bId))), .int .i64 (1))]) (by kernel_rfl) (Met.cons rfl (Met.cons rfl (Met.cons rfl (Met.cons rfl (Met.cons rfl (Met.cons rfl (Met.cons rfl (Met.cons rfl (Met.cons rfl (Met.cons rfl (Met.cons rfl (Met.cons rfl (Met.cons rfl (Met.cons rfl (Met.cons rfl (Met.cons (met_bool h0) (Met.cons (met_bool h1) (Met.cons (enumP h3) (Met.cons (enumZ (threecmp3 ..) h4 h5) (Met.cons (enumP h7) (Met.nil)))))))))))))))))))))
                | false =>
                  have e : tLess aNull aTau aOid aR aDelta aId bNull bTau bOid bR bDelta bId = (.bool false) := by simp only [tLess, h0, h1, h2, h3, h4, h5, h6, h7, cond_true, cond_false]
                  rw [e]
                  exact callQ_run [(6, .bool true), (9, .bool true), (16, .int .i64 (1)), (21, .int .i64 (0)), (26, .int .i64 (0))] (q := [(some (.agg #[.bool bNull, .int .i64 bTau, .int .i64 bOid, .int .i64 bR, .int .i64 bDelta, .int .i64 bId]), .agg #[.bool bNull, .int .i64 bTau, .int .i64 bOid, .int .i64 bR, .int .i64 bDelta, .int .i64 bId]), (some (.int .i64 aDelta), .int .i64 aDelta), (some (.int .i64 aDelta), .int .i64 aDelta), (some (.int .i64 aDelta), .int .i64 aDelta), (some (.int .i64 bDelta), .int .i64 bDelta), (some (.int .i64 bDelta), .int .i64 bDelta), (some (.int .i64 bDelta), .int .i64 bDelta), (some (.int .i64 aId), .int .i64 aId), (some (.int .i64 aId), .int .i64 aId), (some (.int .i64 aId), .int .i64 aId), (some (.int .i64 aId), .int .i64 aId), (some (.int .i64 bId), .int .i64 bId), (some (.int .i64 bId), .int .i64 bId), (some (.int .i64 bId), .int .i64 bId), (some (.int .i64 bId), .int .i64 bId), (some (.bool (known (aNull) (aTau) (aOid) (aR) (aDelta) (aId))), .bool true), (some (.bool (known (bNull) (bTau) (bOid) (bR) (bDelta) (bId))), .bool true), (some (.int .i64 (ord3 ((lev0 (aNull) (aTau) (aOid) (aR) (aDelta) (aId))) ((lev1 (aNull) (aTau) (aOid) (aR) (aDelta) (aId))) ((lev2 (aNull) (aTau) (aOid) (aR) (aDelta) (aId))) ((lev0 (bNull) (bTau) (bOid) (bR) (bDelta) (bId))) ((lev1 (bNull) (bTau) (bOid) (bR) (bDelta) (bId))) ((lev2 (bNull) (bTau) (bOid) (bR) (bDelta) (bId))))), .int .i64 (1)), (some (.int .i64 (cmp3 (aDelta) (bDelta))), .int .i64 (0)), (some (.int .i64 (cmp3 (aId) (bId))), .int .i64 (0))]) (by kernel_rfl) (Met.cons rfl (Met.cons rfl (Met.cons rfl (Met.cons rfl (Met.cons rfl (Met.cons rfl (Met.cons rfl (Met.cons rfl (Met.cons rfl (Met.cons rfl (Met.cons rfl (Met.cons rfl (Met.cons rfl (Met.cons rfl (Met.cons rfl (Met.cons (met_bool h0) (Met.cons (met_bool h1) (Met.cons (enumP h3) (Met.cons (enumZ (threecmp3 ..) h4 h5) (Met.cons (enumZ (threecmp3 ..) h6 h7) (Met.nil)))))))))))))))))))))
        | false =>
          cases h4 : ((cmp3 (aDelta) (bDelta)) == -1) with
          | true =>
            cases h5 : ((cmp3 (aId) (bId)) == -1) with
            | true =>
              have e : tLess aNull aTau aOid aR aDelta aId bNull bTau bOid bR bDelta bId = (.bool true) := by simp only [tLess, h0, h1, h2, h3, h4, h5, cond_true, cond_false]
              rw [e]
              exact callQ_run [(6, .bool true), (9, .bool true), (16, .int .i64 (0)), (21, .int .i64 (-1)), (26, .int .i64 (-1))] (q := [(some (.agg #[.bool bNull, .int .i64 bTau, .int .i64 bOid, .int .i64 bR, .int .i64 bDelta, .int .i64 bId]), .agg #[.bool bNull, .int .i64 bTau, .int .i64 bOid, .int .i64 bR, .int .i64 bDelta, .int .i64 bId]), (some (.int .i64 aDelta), .int .i64 aDelta), (some (.int .i64 aDelta), .int .i64 aDelta), (some (.int .i64 aDelta), .int .i64 aDelta), (some (.int .i64 bDelta), .int .i64 bDelta), (some (.int .i64 bDelta), .int .i64 bDelta), (some (.int .i64 bDelta), .int .i64 bDelta), (some (.int .i64 aId), .int .i64 aId), (some (.int .i64 aId), .int .i64 aId), (some (.int .i64 aId), .int .i64 aId), (some (.int .i64 aId), .int .i64 aId), (some (.int .i64 bId), .int .i64 bId), (some (.int .i64 bId), .int .i64 bId), (some (.int .i64 bId), .int .i64 bId), (some (.int .i64 bId), .int .i64 bId), (some (.bool (known (aNull) (aTau) (aOid) (aR) (aDelta) (aId))), .bool true), (some (.bool (known (bNull) (bTau) (bOid) (bR) (bDelta) (bId))), .bool true), (some (.int .i64 (ord3 ((lev0 (aNull) (aTau) (aOid) (aR) (aDelta) (aId))) ((lev1 (aNull) (aTau) (aOid) (aR) (aDelta) (aId))) ((lev2 (aNull) (aTau) (aOid) (aR) (aDelta) (aId))) ((lev0 (bNull) (bTau) (bOid) (bR) (bDelta) (bId))) ((lev1 (bNull) (bTau) (bOid) (bR) (bDelta) (bId))) ((lev2 (bNull) (bTau) (bOid) (bR) (bDelta) (bId))))), .int .i64 (0)), (some (.int .i64 (cmp3 (aDelta) (bDelta))), .int .i64 (-1)), (some (.int .i64 (cmp3 (aId) (bId))), .int .i64 (-1))]) (by kernel_rfl) (Met.cons rfl (Met.cons rfl (Met.cons rfl (Met.cons rfl (Met.cons rfl (Met.cons rfl (Met.cons rfl (Met.cons rfl (Met.cons rfl (Met.cons rfl (Met.cons rfl (Met.cons rfl (Met.cons rfl (Met.cons rfl (Met.cons rfl (Met.cons (met_bool h0) (Met.cons (met_bool h1) (Met.cons (enumZ (threeord3 ..) h2 h3) (Met.cons (enumN h4) (Met.cons (enumN h5) (Met.nil)))))))))))))))))))))
            | false =>
              cases h6 : ((cmp3 (aId) (bId)) == 1) with
              | true =>
                have e : tLess aNull aTau aOid aR aDelta aId bNull bTau bOid bR bDelta bId = (.bool true) := by simp only [tLess, h0, h1, h2, h3, h4, h5, h6, cond_true, cond_false]
                rw [e]
                exact callQ_run [(6, .bool true), (9, .bool true), (16, .int .i64 (0)), (21, .int .i64 (-1)), (26, .int .i64 (1))] (q := [(some (.agg #[.bool bNull, .int .i64 bTau, .int .i64 bOid, .int .i64 bR, .int .i64 bDelta, .int .i64 bId]), .agg #[.bool bNull, .int .i64 bTau, .int .i64 bOid, .int .i64 bR, .int .i64 bDelta, .int .i64 bId]), (some (.int .i64 aDelta), .int .i64 aDelta), (some (.int .i64 aDelta), .int .i64 aDelta), (some (.int .i64 aDelta), .int .i64 aDelta), (some (.int .i64 bDelta), .int .i64 bDelta), (some (.int .i64 bDelta), .int .i64 bDelta), (some (.int .i64 bDelta), .int .i64 bDelta), (some (.int .i64 aId), .int .i64 aId), (some (.int .i64 aId), .int .i64 aId), (some (.int .i64 aId), .int .i64 aId), (some (.int .i64 aId), .int .i64 aId), (some (.int .i64 bId), .int .i64 bId), (some (.int .i64 bId), .int .i64 bId), (some (.int .i64 bId), .int .i64 bId), (some (.int .i64 bId), .int .i64 bId), (some (.bool (known (aNull) (aTau) (aOid) (aR) (aDelta) (aId))), .bool true), (some (.bool (known (bNull) (bTau) (bOid) (bR) (bDelta) (bId))), .bool true), (some (.int .i64 (ord3 ((lev0 (aNull) (aTau) (aOid) (aR) (aDelta) (aId))) ((lev1 (aNull) (aTau) (aOid) (aR) (aDelta) (aId))) ((lev2 (aNull) (aTau) (aOid) (aR) (aDelta) (aId))) ((lev0 (bNull) (bTau) (bOid) (bR) (bDelta) (bId))) ((lev1 (bNull) (bTau) (bOid) (bR) (bDelta) (bId))) ((lev2 (bNull) (bTau) (bOid) (bR) (bDelta) (bId))))), .int .i64 (0)), (some (.int .i64 (cmp3 (aDelta) (bDelta))), .int .i64 (-1)), (some (.int .i64 (cmp3 (aId) (bId))), .int .i64 (1))]) (by kernel_rfl) (Met.cons rfl (Met.cons rfl (Met.cons rfl (Met.cons rfl (Met.cons rfl (Met.cons rfl (Met.cons rfl (Met.cons rfl (Met.cons rfl (Met.cons rfl (Met.cons rfl (Met.cons rfl (Met.cons rfl (Met.cons rfl (Met.cons rfl (Met.cons (met_bool h0) (Met.cons (met_bool h1) (Met.cons (enumZ (threeord3 ..) h2 h3) (Met.cons (enumN h4) (Met.cons (enumP h6) (Met.nil)))))))))))))))))))))
              | false =>
                have e : tLess aNull aTau aOid aR aDelta aId bNull bTau bOid bR bDelta bId = (.bool true) := by simp only [tLess, h0, h1, h2, h3, h4, h5, h6, cond_true, cond_false]
                rw [e]
                exact callQ_run [(6, .bool true), (9, .bool true), (16, .int .i64 (0)), (21, .int .i64 (-1)), (26, .int .i64 (0))] (q := [(some (.agg #[.bool bNull, .int .i64 bTau, .int .i64 bOid, .int .i64 bR, .int .i64 bDelta, .int .i64 bId]), .agg #[.bool bNull, .int .i64 bTau, .int .i64 bOid, .int .i64 bR, .int .i64 bDelta, .int .i64 bId]), (some (.int .i64 aDelta), .int .i64 aDelta), (some (.int .i64 aDelta), .int .i64 aDelta), (some (.int .i64 aDelta), .int .i64 aDelta), (some (.int .i64 bDelta), .int .i64 bDelta), (some (.int .i64 bDelta), .int .i64 bDelta), (some (.int .i64 bDelta), .int .i64 bDelta), (some (.int .i64 aId), .int .i64 aId), (some (.int .i64 aId), .int .i64 aId), (some (.int .i64 aId), .int .i64 aId), (some (.int .i64 aId), .int .i64 aId), (some (.int .i64 bId), .int .i64 bId), (some (.int .i64 bId), .int .i64 bId), (some (.int .i64 bId), .int .i64 bId), (some (.int .i64 bId), .int .i64 bId), (some (.bool (known (aNull) (aTau) (aOid) (aR) (aDelta) (aId))), .bool true), (some (.bool (known (bNull) (bTau) (bOid) (bR) (bDelta) (bId))), .bool true), (some (.int .i64 (ord3 ((lev0 (aNull) (aTau) (aOid) (aR) (aDelta) (aId))) ((lev1 (aNull) (aTau) (aOid) (aR) (aDelta) (aId))) ((lev2 (aNull) (aTau) (aOid) (aR) (aDelta) (aId))) ((lev0 (bNull) (bTau) (bOid) (bR) (bDelta) (bId))) ((lev1 (bNull) (bTau) (bOid) (bR) (bDelta) (bId))) ((lev2 (bNull) (bTau) (bOid) (bR) (bDelta) (bId))))), .int .i64 (0)), (some (.int .i64 (cmp3 (aDelta) (bDelta))), .int .i64 (-1)), (some (.int .i64 (cmp3 (aId) (bId))), .int .i64 (0))]) (by kernel_rfl) (Met.cons rfl (Met.cons rfl (Met.cons rfl (Met.cons rfl (Met.cons rfl (Met.cons rfl (Met.cons rfl (Met.cons rfl (Met.cons rfl (Met.cons rfl (Met.cons rfl (Met.cons rfl (Met.cons rfl (Met.cons rfl (Met.cons rfl (Met.cons (met_bool h0) (Met.cons (met_bool h1) (Met.cons (enumZ (threeord3 ..) h2 h3) (Met.cons (enumN h4) (Met.cons (enumZ (threecmp3 ..) h5 h6) (Met.nil)))))))))))))))))))))
          | false =>
            cases h5 : ((cmp3 (aDelta) (bDelta)) == 1) with
            | true =>
              cases h6 : ((cmp3 (aId) (bId)) == -1) with
              | true =>
                have e : tLess aNull aTau aOid aR aDelta aId bNull bTau bOid bR bDelta bId = (.bool false) := by simp only [tLess, h0, h1, h2, h3, h4, h5, h6, cond_true, cond_false]
                rw [e]
                exact callQ_run [(6, .bool true), (9, .bool true), (16, .int .i64 (0)), (21, .int .i64 (1)), (26, .int .i64 (-1))] (q := [(some (.agg #[.bool bNull, .int .i64 bTau, .int .i64 bOid, .int .i64 bR, .int .i64 bDelta, .int .i64 bId]), .agg #[.bool bNull, .int .i64 bTau, .int .i64 bOid, .int .i64 bR, .int .i64 bDelta, .int .i64 bId]), (some (.int .i64 aDelta), .int .i64 aDelta), (some (.int .i64 aDelta), .int .i64 aDelta), (some (.int .i64 aDelta), .int .i64 aDelta), (some (.int .i64 bDelta), .int .i64 bDelta), (some (.int .i64 bDelta), .int .i64 bDelta), (some (.int .i64 bDelta), .int .i64 bDelta), (some (.int .i64 aId), .int .i64 aId), (some (.int .i64 aId), .int .i64 aId), (some (.int .i64 aId), .int .i64 aId), (some (.int .i64 aId), .int .i64 aId), (some (.int .i64 bId), .int .i64 bId), (some (.int .i64 bId), .int .i64 bId), (some (.int .i64 bId), .int .i64 bId), (some (.int .i64 bId), .int .i64 bId), (some (.bool (known (aNull) (aTau) (aOid) (aR) (aDelta) (aId))), .bool true), (some (.bool (known (bNull) (bTau) (bOid) (bR) (bDelta) (bId))), .bool true), (some (.int .i64 (ord3 ((lev0 (aNull) (aTau) (aOid) (aR) (aDelta) (aId))) ((lev1 (aNull) (aTau) (aOid) (aR) (aDelta) (aId))) ((lev2 (aNull) (aTau) (aOid) (aR) (aDelta) (aId))) ((lev0 (bNull) (bTau) (bOid) (bR) (bDelta) (bId))) ((lev1 (bNull) (bTau) (bOid) (bR) (bDelta) (bId))) ((lev2 (bNull) (bTau) (bOid) (bR) (bDelta) (bId))))), .int .i64 (0)), (some (.int .i64 (cmp3 (aDelta) (bDelta))), .int .i64 (1)), (some (.int .i64 (cmp3 (aId) (bId))), .int .i64 (-1))]) (by kernel_rfl) (Met.cons rfl (Met.cons rfl (Met.cons rfl (Met.cons rfl (Met.cons rfl (Met.cons rfl (Met.cons rfl (Met.cons rfl (Met.cons rfl (Met.cons rfl (Met.cons rfl (Met.cons rfl (Met.cons rfl (Met.cons rfl (Met.cons rfl (Met.cons (met_bool h0) (Met.cons (met_bool h1) (Met.cons (enumZ (threeord3 ..) h2 h3) (Met.cons (enumP h5) (Met.cons (enumN h6) (Met.nil)))))))))))))))))))))
              | false =>
                cases h7 : ((cmp3 (aId) (bId)) == 1) with
                | true =>
                  have e : tLess aNull aTau aOid aR aDelta aId bNull bTau bOid bR bDelta bId = (.bool false) := by simp only [tLess, h0, h1, h2, h3, h4, h5, h6, h7, cond_true, cond_false]
                  rw [e]
                  exact callQ_run [(6, .bool true), (9, .bool true), (16, .int .i64 (0)), (21, .int .i64 (1)), (26, .int .i64 (1))] (q := [(some (.agg #[.bool bNull, .int .i64 bTau, .int .i64 bOid, .int .i64 bR, .int .i64 bDelta, .int .i64 bId]), .agg #[.bool bNull, .int .i64 bTau, .int .i64 bOid, .int .i64 bR, .int .i64 bDelta, .int .i64 bId]), (some (.int .i64 aDelta), .int .i64 aDelta), (some (.int .i64 aDelta), .int .i64 aDelta), (some (.int .i64 aDelta), .int .i64 aDelta), (some (.int .i64 bDelta), .int .i64 bDelta), (some (.int .i64 bDelta), .int .i64 bDelta), (some (.int .i64 bDelta), .int .i64 bDelta), (some (.int .i64 aId), .int .i64 aId), (some (.int .i64 aId), .int .i64 aId), (some (.int .i64 aId), .int .i64 aId), (some (.int .i64 aId), .int .i64 aId), (some (.int .i64 bId), .int .i64 bId), (some (.int .i64 bId), .int .i64 bId), (some (.int .i64 bId), .int .i64 bId), (some (.int .i64 bId), .int .i64 bId), (some (.bool (known (aNull) (aTau) (aOid) (aR) (aDelta) (aId))), .bool true), (some (.bool (known (bNull) (bTau) (bOid) (bR) (bDelta) (bId))), .bool true), (some (.int .i64 (ord3 ((lev0 (aNull) (aTau) (aOid) (aR) (aDelta) (aId))) ((lev1 (aNull) (aTau) (aOid) (aR) (aDelta) (aId))) ((lev2 (aNull) (aTau) (aOid) (aR) (aDelta) (aId))) ((lev0 (bNull) (bTau) (bOid) (bR) (bDelta) (bId))) ((lev1 (bNull) (bTau) (bOid) (bR) (bDelta) (bId))) ((lev2 (bNull) (bTau) (bOid) (bR) (bDelta) (bId))))), .int .i64 (0)), (some (.int .i64 (cmp3 (aDelta) (bDelta))), .int .i64 (1)), (some (.int .i64 (cmp3 (aId) (bId))), .int .i64 (1))]) (by kernel_rfl) (Met.cons rfl (Met.cons rfl (Met.cons rfl (Met.cons rfl (Met.cons rfl (Met.cons rfl (Met.cons rfl (Met.cons rfl (Met.cons rfl (Met.cons rfl (Met.cons rfl (Met.cons rfl (Met.cons rfl (Met.cons rfl (Met.cons rfl (Met.cons (met_bool h0) (Met.cons (met_bool h1) (Met.cons (enumZ (threeord3 ..) h2 h3) (Met.cons (enumP h5) (Met.cons (enumP h7) (Met.nil)))))))))))))))))))))
                | false =>
                  have e : tLess aNull aTau aOid aR aDelta aId bNull bTau bOid bR bDelta bId = (.bool false) := by simp only [tLess, h0, h1, h2, h3, h4, h5, h6, h7, cond_true, cond_false]
                  rw [e]
                  exact callQ_run [(6, .bool true), (9, .bool true), (16, .int .i64 (0)), (21, .int .i64 (1)), (26, .int .i64 (0))] (q := [(some (.agg #[.bool bNull, .int .i64 bTau, .int .i64 bOid, .int .i64 bR, .int .i64 bDelta, .int .i64 bId]), .agg #[.bool bNull, .int .i64 bTau, .int .i64 bOid, .int .i64 bR, .int .i64 bDelta, .int .i64 bId]), (some (.int .i64 aDelta), .int .i64 aDelta), (some (.int .i64 aDelta), .int .i64 aDelta), (some (.int .i64 aDelta), .int .i64 aDelta), (some (.int .i64 bDelta), .int .i64 bDelta), (some (.int .i64 bDelta), .int .i64 bDelta), (some (.int .i64 bDelta), .int .i64 bDelta), (some (.int .i64 aId), .int .i64 aId), (some (.int .i64 aId), .int .i64 aId), (some (.int .i64 aId), .int .i64 aId), (some (.int .i64 aId), .int .i64 aId), (some (.int .i64 bId), .int .i64 bId), (some (.int .i64 bId), .int .i64 bId), (some (.int .i64 bId), .int .i64 bId), (some (.int .i64 bId), .int .i64 bId), (some (.bool (known (aNull) (aTau) (aOid) (aR) (aDelta) (aId))), .bool true), (some (.bool (known (bNull) (bTau) (bOid) (bR) (bDelta) (bId))), .bool true), (some (.int .i64 (ord3 ((lev0 (aNull) (aTau) (aOid) (aR) (aDelta) (aId))) ((lev1 (aNull) (aTau) (aOid) (aR) (aDelta) (aId))) ((lev2 (aNull) (aTau) (aOid) (aR) (aDelta) (aId))) ((lev0 (bNull) (bTau) (bOid) (bR) (bDelta) (bId))) ((lev1 (bNull) (bTau) (bOid) (bR) (bDelta) (bId))) ((lev2 (bNull) (bTau) (bOid) (bR) (bDelta) (bId))))), .int .i64 (0)), (some (.int .i64 (cmp3 (aDelta) (bDelta))), .int .i64 (1)), (some (.int .i64 (cmp3 (aId) (bId))), .int .i64 (0))]) (by kernel_rfl) (Met.cons rfl (Met.cons rfl (Met.cons rfl (Met.cons rfl (Met.cons rfl (Met.cons rfl (Met.cons rfl (Met.cons rfl (Met.cons rfl (Met.cons rfl (Met.cons rfl (Met.cons rfl (Met.cons rfl (Met.cons rfl (Met.cons rfl (Met.cons (met_bool h0) (Met.cons (met_bool h1) (Met.cons (enumZ (threeord3 ..) h2 h3) (Met.cons (enumP h5) (Met.cons (enumZ (threecmp3 ..) h6 h7) (Met.nil)))))))))))))))))))))
            | false =>
              cases h6 : ((cmp3 (aId) (bId)) == -1) with
              | true =>
                have e : tLess aNull aTau aOid aR aDelta aId bNull bTau bOid bR bDelta bId = (.bool true) := by simp only [tLess, h0, h1, h2, h3, h4, h5, h6, cond_true, cond_false]
                rw [e]
                exact callQ_run [(6, .bool true), (9, .bool true), (16, .int .i64 (0)), (21, .int .i64 (0)), (26, .int .i64 (-1))] (q := [(some (.agg #[.bool bNull, .int .i64 bTau, .int .i64 bOid, .int .i64 bR, .int .i64 bDelta, .int .i64 bId]), .agg #[.bool bNull, .int .i64 bTau, .int .i64 bOid, .int .i64 bR, .int .i64 bDelta, .int .i64 bId]), (some (.int .i64 aDelta), .int .i64 aDelta), (some (.int .i64 aDelta), .int .i64 aDelta), (some (.int .i64 aDelta), .int .i64 aDelta), (some (.int .i64 bDelta), .int .i64 bDelta), (some (.int .i64 bDelta), .int .i64 bDelta), (some (.int .i64 bDelta), .int .i64 bDelta), (some (.int .i64 aId), .int .i64 aId), (some (.int .i64 aId), .int .i64 aId), (some (.int .i64 aId), .int .i64 aId), (some (.int .i64 aId), .int .i64 aId), (some (.int .i64 bId), .int .i64 bId), (some (.int .i64 bId), .int .i64 bId), (some (.int .i64 bId), .int .i64 bId), (some (.int .i64 bId), .int .i64 bId), (some (.bool (known (aNull) (aTau) (aOid) (aR) (aDelta) (aId))), .bool true), (some (.bool (known (bNull) (bTau) (bOid) (bR) (bDelta) (bId))), .bool true), (some (.int .i64 (ord3 ((lev0 (aNull) (aTau) (aOid) (aR) (aDelta) (aId))) ((lev1 (aNull) (aTau) (aOid) (aR) (aDelta) (aId))) ((lev2 (aNull) (aTau) (aOid) (aR) (aDelta) (aId))) ((lev0 (bNull) (bTau) (bOid) (bR) (bDelta) (bId))) ((lev1 (bNull) (bTau) (bOid) (bR) (bDelta) (bId))) ((lev2 (bNull) (bTau) (bOid) (bR) (bDelta) (bId))))), .int .i64 (0)), (some (.int .i64 (cmp3 (aDelta) (bDelta))), .int .i64 (0)), (some (.int .i64 (cmp3 (aId) (bId))), .int .i64 (-1))]) (by kernel_rfl) (Met.cons rfl (Met.cons rfl (Met.cons rfl (Met.cons rfl (Met.cons rfl (Met.cons rfl (Met.cons rfl (Met.cons rfl (Met.cons rfl (Met.cons rfl (Met.cons rfl (Met.cons rfl (Met.cons rfl (Met.cons rfl (Met.cons rfl (Met.cons (met_bool h0) (Met.cons (met_bool h1) (Met.cons (enumZ (threeord3 ..) h2 h3) (Met.cons (enumZ (threecmp3 ..) h4 h5) (Met.cons (enumN h6) (Met.nil)))))))))))))))))))))
              | false =>
                cases h7 : ((cmp3 (aId) (bId)) == 1) with
                | true =>
                  have e : tLess aNull aTau aOid aR aDelta aId bNull bTau bOid bR bDelta bId = (.bool false) := by simp only [tLess, h0, h1, h2, h3, h4, h5, h6, h7, cond_true, cond_false]
                  rw [e]
                  exact callQ_run [(6, .bool true), (9, .bool true), (16, .int .i64 (0)), (21, .int .i64 (0)), (26, .int .i64 (1))] (q := [(some (.agg #[.bool bNull, .int .i64 bTau, .int .i64 bOid, .int .i64 bR, .int .i64 bDelta, .int .i64 bId]), .agg #[.bool bNull, .int .i64 bTau, .int .i64 bOid, .int .i64 bR, .int .i64 bDelta, .int .i64 bId]), (some (.int .i64 aDelta), .int .i64 aDelta), (some (.int .i64 aDelta), .int .i64 aDelta), (some (.int .i64 aDelta), .int .i64 aDelta), (some (.int .i64 bDelta), .int .i64 bDelta), (some (.int .i64 bDelta), .int .i64 bDelta), (some (.int .i64 bDelta), .int .i64 bDelta), (some (.int .i64 aId), .int .i64 aId), (some (.int .i64 aId), .int .i64 aId), (some (.int .i64 aId), .int .i64 aId), (some (.int .i64 aId), .int .i64 aId), (some (.int .i64 bId), .int .i64 bId), (some (.int .i64 bId), .int .i64 bId), (some (.int .i64 bId), .int .i64 bId), (some (.int .i64 bId), .int .i64 bId), (some (.bool (known (aNull) (aTau) (aOid) (aR) (aDelta) (aId))), .bool true), (some (.bool (known (bNull) (bTau) (bOid) (bR) (bDelta) (bId))), .bool true), (some (.int .i64 (ord3 ((lev0 (aNull) (aTau) (aOid) (aR) (aDelta) (aId))) ((lev1 (aNull) (aTau) (aOid) (aR) (aDelta) (aId))) ((lev2 (aNull) (aTau) (aOid) (aR) (aDelta) (aId))) ((lev0 (bNull) (bTau) (bOid) (bR) (bDelta) (bId))) ((lev1 (bNull) (bTau) (bOid) (bR) (bDelta) (bId))) ((lev2 (bNull) (bTau) (bOid) (bR) (bDelta) (bId))))), .int .i64 (0)), (some (.int .i64 (cmp3 (aDelta) (bDelta))), .int .i64 (0)), (some (.int .i64 (cmp3 (aId) (bId))), .int .i64 (1))]) (by kernel_rfl) (Met.cons rfl (Met.cons rfl (Met.cons rfl (Met.cons rfl (Met.cons rfl (Met.cons rfl (Met.cons rfl (Met.cons rfl (Met.cons rfl (Met.cons rfl (Met.cons rfl (Met.cons rfl (Met.cons rfl (Met.cons rfl (Met.cons rfl (Met.cons (met_bool h0) (Met.cons (met_bool h1) (Met.cons (enumZ (threeord3 ..) h2 h3) (Met.cons (enumZ (threecmp3 ..) h4 h5) (Met.cons (enumP h7) (Met.nil)))))))))))))))))))))
                | false =>
                  have e : tLess aNull aTau aOid aR aDelta aId bNull bTau bOid bR bDelta bId = (.bool false) := by simp only [tLess, h0, h1, h2, h3, h4, h5, h6, h7, cond_true, cond_false]
                  rw [e]
                  exact callQ_run [(6, .bool true), (9, .bool true), (16, .int .i64 (0)), (21, .int .i64 (0)), (26, .int .i64 (0))] (q := [(some (.agg #[.bool bNull, .int .i64 bTau, .int .i64 bOid, .int .i64 bR, .int .i64 bDelta, .int .i64 bId]), .agg #[.bool bNull, .int .i64 bTau, .int .i64 bOid, .int .i64 bR, .int .i64 bDelta, .int .i64 bId]), (some (.int .i64 aDelta), .int .i64 aDelta), (some (.int .i64 aDelta), .int .i64 aDelta), (some (.int .i64 aDelta), .int .i64 aDelta), (some (.int .i64 bDelta), .int .i64 bDelta), (some (.int .i64 bDelta), .int .i64 bDelta), (some (.int .i64 bDelta), .int .i64 bDelta), (some (.int .i64 aId), .int .i64 aId), (some (.int .i64 aId), .int .i64 aId), (some (.int .i64 aId), .int .i64 aId), (some (.int .i64 aId), .int .i64 aId), (some (.int .i64 bId), .int .i64 bId), (some (.int .i64 bId), .int .i64 bId), (some (.int .i64 bId), .int .i64 bId), (some (.int .i64 bId), .int .i64 bId), (some (.bool (known (aNull) (aTau) (aOid) (aR) (aDelta) (aId))), .bool true), (some (.bool (known (bNull) (bTau) (bOid) (bR) (bDelta) (bId))), .bool true), (some (.int .i64 (ord3 ((lev0 (aNull) (aTau) (aOid) (aR) (aDelta) (aId))) ((lev1 (aNull) (aTau) (aOid) (aR) (aDelta) (aId))) ((lev2 (aNull) (aTau) (aOid) (aR) (aDelta) (aId))) ((lev0 (bNull) (bTau) (bOid) (bR) (bDelta) (bId))) ((lev1 (bNull) (bTau) (bOid) (bR) (bDelta) (bId))) ((lev2 (bNull) (bTau) (bOid) (bR) (bDelta) (bId))))), .int .i64 (0)), (some (.int .i64 (cmp3 (aDelta) (bDelta))), .int .i64 (0)), (some (.int .i64 (cmp3 (aId) (bId))), .int .i64 (0))]) (by kernel_rfl) (Met.cons rfl (Met.cons rfl (Met.cons rfl (Met.cons rfl (Met.cons rfl (Met.cons rfl (Met.cons rfl (Met.cons rfl (Met.cons rfl (Met.cons rfl (Met.cons rfl (Met.cons rfl (Met.cons rfl (Met.cons rfl (Met.cons rfl (Met.cons (met_bool h0) (Met.cons (met_bool h1) (Met.cons (enumZ (threeord3 ..) h2 h3) (Met.cons (enumZ (threecmp3 ..) h4 h5) (Met.cons (enumZ (threecmp3 ..) h6 h7) (Met.nil)))))))))))))))))))))
    | false =>
      have e : tLess aNull aTau aOid aR aDelta aId bNull bTau bOid bR bDelta bId = (.bool false) := by simp only [tLess, h0, h1, cond_true, cond_false]
      rw [e]
      exact callQ_run [(6, .bool true), (9, .bool false)] (q := [(some (.bool (known (aNull) (aTau) (aOid) (aR) (aDelta) (aId))), .bool true), (some (.bool (known (bNull) (bTau) (bOid) (bR) (bDelta) (bId))), .bool false)]) (by kernel_rfl) (Met.cons (met_bool h0) (Met.cons (met_bool h1) (Met.nil)))
  | false =>
    have e : tLess aNull aTau aOid aR aDelta aId bNull bTau bOid bR bDelta bId = (.bool false) := by simp only [tLess, h0, cond_true, cond_false]
    rw [e]
    exact callQ_run [(6, .bool false)] (q := [(some (.bool (known (aNull) (aTau) (aOid) (aR) (aDelta) (aId))), .bool false)]) (by kernel_rfl) (Met.cons (met_bool h0) (Met.nil))


/-- Which is less? -/
def less (n : Bool) (t o r d i : Int) (n' : Bool) (t' o' r' d' i' : Int) : Bool :=
  known n t o r d i && (known n' t' o' r' d' i' && decide (or3 (ord3 (lev0 n t o r d i) (lev1 n t o r d i) (lev2 n t o r d i) (lev0 n' t' o' r' d' i') (lev1 n' t' o' r' d' i') (lev2 n' t' o' r' d' i')) (cmp3 d d') (cmp3 i i') < 0))
theorem tLess_eq (n : Bool) (t o r d i : Int) (n' : Bool) (t' o' r' d' i' : Int) : tLess n t o r d i n' t' o' r' d' i' = .bool (less n t o r d i n' t' o' r' d' i') := by
  unfold tLess less
  cases known n t o r d i with
  | false => rfl
  | true =>
    cases known n' t' o' r' d' i' with
    | false => rfl
    | true =>
      simp only [cond_true, Bool.true_and]
      rcases threeord3 (lev0 n t o r d i) (lev1 n t o r d i) (lev2 n t o r d i) (lev0 n' t' o' r' d' i') (lev1 n' t' o' r' d' i') (lev2 n' t' o' r' d' i') with h | h | h <;>
        rcases threecmp3 d d' with h2 | h2 | h2 <;> rcases threecmp3 i i' with h3 | h3 | h3 <;> rw [h, h2, h3] <;> rfl
def g17 : List Value → Option Value
  | [.agg c0, .agg c1] => match c0.toList, c1.toList with
    | [.bool hn, .int .i64 ht, .int .i64 ho, .int .i64 hr, .int .i64 hd, .int .i64 hi], [.bool kn, .int .i64 kt, .int .i64 ko, .int .i64 kr, .int .i64 kd, .int .i64 ki] => some (.bool (less hn ht ho hr hd hi kn kt ko kr kd ki))
    | _, _ => none
  | _ => none
theorem hk17 : HookGoal Try.prog 35 g17 := hook_of (ext := E3) E3_ok follows Try.func35 (by kernel_rfl) fun args v h => by
  unfold g17 at h
  split at h
  · rename_i c0 c1
    split at h
    · rename_i ec0 ec1
      cases h
      obtain rfl := arr_of ec0
      obtain rfl := arr_of ec1
      refine ⟨rfl, rfl, ?_⟩
      obtain ⟨hp, q⟩ := tLess_run _ _ _ _ _ _ _ _ _ _ _ _
      rw [tLess_eq] at q
      exact ⟨_, hp, q⟩
    · cases h
  · cases h
noncomputable def E4 : Ext := extH Try.prog [(39, g51), (35, g17)]
theorem E4_ok : ExtOk Try.prog E4 := by unfold E4; exact extH_ok (.cons hk51 (.cons hk17 .nil))
/-- thalweg/links.Dir -/
def tDir (aNull : Bool) (aTau : Int) (aOid : Int) (aR : Int) (aDelta : Int) (aId : Int) (bNull : Bool) (bTau : Int) (bOid : Int) (bR : Int) (bDelta : Int) (bId : Int) : Value := (bif (told (bNull) (bTau) (bOid) (bR) (bDelta) (bId)) then (bif (told (aNull) (aTau) (aOid) (aR) (aDelta) (aId)) then (bif (less (bNull) (bTau) (bOid) (bR) (bDelta) (bId) (aNull) (aTau) (aOid) (aR) (aDelta) (aId)) then (.int .i64 1) else (bif (less (aNull) (aTau) (aOid) (aR) (aDelta) (aId) (bNull) (bTau) (bOid) (bR) (bDelta) (bId)) then (.int .i64 2) else (.int .i64 0))) else (.int .i64 1)) else (.int .i64 0))
theorem tDir_run (aNull : Bool) (aTau : Int) (aOid : Int) (aR : Int) (aDelta : Int) (aId : Int) (bNull : Bool) (bTau : Int) (bOid : Int) (bR : Int) (bDelta : Int) (bId : Int) : ∃ hp, aCall Try.prog E4 61 12 [.agg #[.bool aNull, .int .i64 aTau, .int .i64 aOid, .int .i64 aR, .int .i64 aDelta, .int .i64 aId], .agg #[.bool bNull, .int .i64 bTau, .int .i64 bOid, .int .i64 bR, .int .i64 bDelta, .int .i64 bId]] hp0 = some (tDir aNull aTau aOid aR aDelta aId bNull bTau bOid bR bDelta bId, hp) := by
  cases h0 : (told (bNull) (bTau) (bOid) (bR) (bDelta) (bId)) with
  | true =>
    cases h1 : (told (aNull) (aTau) (aOid) (aR) (aDelta) (aId)) with
    | true =>
      cases h2 : (less (bNull) (bTau) (bOid) (bR) (bDelta) (bId) (aNull) (aTau) (aOid) (aR) (aDelta) (aId)) with
      | true =>
        have e : tDir aNull aTau aOid aR aDelta aId bNull bTau bOid bR bDelta bId = (.int .i64 1) := by simp only [tDir, h0, h1, h2, cond_true, cond_false]
        rw [e]
        exact callQ_run [(7, .bool true), (11, .bool true), (16, .bool true)] (q := [(some (.bool (told (bNull) (bTau) (bOid) (bR) (bDelta) (bId))), .bool true), (some (.bool (told (aNull) (aTau) (aOid) (aR) (aDelta) (aId))), .bool true), (some (.bool (less (bNull) (bTau) (bOid) (bR) (bDelta) (bId) (aNull) (aTau) (aOid) (aR) (aDelta) (aId))), .bool true)]) (by kernel_rfl) (Met.cons (met_bool h0) (Met.cons (met_bool h1) (Met.cons (met_bool h2) (Met.nil))))
      | false =>
        cases h3 : (less (aNull) (aTau) (aOid) (aR) (aDelta) (aId) (bNull) (bTau) (bOid) (bR) (bDelta) (bId)) with
        | true =>
          have e : tDir aNull aTau aOid aR aDelta aId bNull bTau bOid bR bDelta bId = (.int .i64 2) := by simp only [tDir, h0, h1, h2, h3, cond_true, cond_false]
          rw [e]
          exact callQ_run [(7, .bool true), (11, .bool true), (16, .bool false), (21, .bool true)] (q := [(some (.bool (told (bNull) (bTau) (bOid) (bR) (bDelta) (bId))), .bool true), (some (.bool (told (aNull) (aTau) (aOid) (aR) (aDelta) (aId))), .bool true), (some (.bool (less (bNull) (bTau) (bOid) (bR) (bDelta) (bId) (aNull) (aTau) (aOid) (aR) (aDelta) (aId))), .bool false), (some (.bool (less (aNull) (aTau) (aOid) (aR) (aDelta) (aId) (bNull) (bTau) (bOid) (bR) (bDelta) (bId))), .bool true)]) (by kernel_rfl) (Met.cons (met_bool h0) (Met.cons (met_bool h1) (Met.cons (met_bool h2) (Met.cons (met_bool h3) (Met.nil)))))
        | false =>
          have e : tDir aNull aTau aOid aR aDelta aId bNull bTau bOid bR bDelta bId = (.int .i64 0) := by simp only [tDir, h0, h1, h2, h3, cond_true, cond_false]
          rw [e]
          exact callQ_run [(7, .bool true), (11, .bool true), (16, .bool false), (21, .bool false)] (q := [(some (.bool (told (bNull) (bTau) (bOid) (bR) (bDelta) (bId))), .bool true), (some (.bool (told (aNull) (aTau) (aOid) (aR) (aDelta) (aId))), .bool true), (some (.bool (less (bNull) (bTau) (bOid) (bR) (bDelta) (bId) (aNull) (aTau) (aOid) (aR) (aDelta) (aId))), .bool false), (some (.bool (less (aNull) (aTau) (aOid) (aR) (aDelta) (aId) (bNull) (bTau) (bOid) (bR) (bDelta) (bId))), .bool false)]) (by kernel_rfl) (Met.cons (met_bool h0) (Met.cons (met_bool h1) (Met.cons (met_bool h2) (Met.cons (met_bool h3) (Met.nil)))))
    | false =>
      have e : tDir aNull aTau aOid aR aDelta aId bNull bTau bOid bR bDelta bId = (.int .i64 1) := by simp only [tDir, h0, h1, cond_true, cond_false]
      rw [e]
      exact callQ_run [(7, .bool true), (11, .bool false)] (q := [(some (.bool (told (bNull) (bTau) (bOid) (bR) (bDelta) (bId))), .bool true), (some (.bool (told (aNull) (aTau) (aOid) (aR) (aDelta) (aId))), .bool false)]) (by kernel_rfl) (Met.cons (met_bool h0) (Met.cons (met_bool h1) (Met.nil)))
  | false =>
    have e : tDir aNull aTau aOid aR aDelta aId bNull bTau bOid bR bDelta bId = (.int .i64 0) := by simp only [tDir, h0, cond_true, cond_false]
    rw [e]
    exact callQ_run [(7, .bool false)] (q := [(some (.bool (told (bNull) (bTau) (bOid) (bR) (bDelta) (bId))), .bool false)]) (by kernel_rfl) (Met.cons (met_bool h0) (Met.nil))


/-- Which way? -/
def dir (n : Bool) (t o r d i : Int) (n' : Bool) (t' o' r' d' i' : Int) : Int :=
  bif known n' t' o' r' d' i' then (bif known n t o r d i then (bif less n' t' o' r' d' i' n t o r d i then 1 else (bif less n t o r d i n' t' o' r' d' i' then 2 else 0)) else 1) else 0
theorem tDir_eq (n : Bool) (t o r d i : Int) (n' : Bool) (t' o' r' d' i' : Int) : tDir n t o r d i n' t' o' r' d' i' = .int .i64 (dir n t o r d i n' t' o' r' d' i') := by
  unfold tDir dir told
  cases known n' t' o' r' d' i' <;> cases known n t o r d i <;> cases less n' t' o' r' d' i' n t o r d i <;> cases less n t o r d i n' t' o' r' d' i' <;> rfl
def g14 : List Value → Option Value
  | [.agg c0, .agg c1] => match c0.toList, c1.toList with
    | [.bool hn, .int .i64 ht, .int .i64 ho, .int .i64 hr, .int .i64 hd, .int .i64 hi], [.bool kn, .int .i64 kt, .int .i64 ko, .int .i64 kr, .int .i64 kd, .int .i64 ki] => some (.int .i64 (dir hn ht ho hr hd hi kn kt ko kr kd ki))
    | _, _ => none
  | _ => none
theorem hk14 : HookGoal Try.prog 12 g14 := hook_of (ext := E4) E4_ok follows Try.func12 (by kernel_rfl) fun args v h => by
  unfold g14 at h
  split at h
  · rename_i c0 c1
    split at h
    · rename_i ec0 ec1
      cases h
      obtain rfl := arr_of ec0
      obtain rfl := arr_of ec1
      refine ⟨rfl, rfl, ?_⟩
      obtain ⟨hp, q⟩ := tDir_run _ _ _ _ _ _ _ _ _ _ _ _
      rw [tDir_eq] at q
      exact ⟨_, hp, q⟩
    · cases h
  · cases h

end Go.Proofs.Ytgeoommlmddgpaa.LtA
