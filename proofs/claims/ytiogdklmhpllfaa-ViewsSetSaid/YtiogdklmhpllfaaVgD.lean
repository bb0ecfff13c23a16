/- ViewsSet, of the given program: for every views, node and height the law returns true, and the arguments read as they did. No condition. -/
import Derived.Test.YtiogdklmhpllfaaVgC
import Derived.Test.YtiogdklmhpllfaaRows
set_option linter.unusedVariables false
set_option linter.unusedSimpArgs false
set_option maxRecDepth 100000
namespace Go.Proofs.Ytiogdklmhpllfaa.LtA
open Go Go.Proofs Go.Proofs.Ytiogdklmhpllfaa.AI Go.RowKit

/-- thalweg/thalwegref02.Right -/
def tROne (hNull : Bool) (hTau : Int) (hOid : Int) (hR : Int) (hDelta : Int) (hId : Int) : Value := (bif hNull then (bif (decide (hId < 0)) then (.bool false) else (bif (decide (hId ≥ 64)) then (.bool false) else (bif (same23 (true) (hTau) (hOid) (hR) (hDelta) (hId) (true) (0) (0) (0) (0) (hId)) then (.bool true) else (.bool false)))) else (bif (decide (hId < 0)) then (.bool false) else (bif (decide (hId ≥ 64)) then (.bool false) else (bif (decide (hTau ≥ 0)) then (bif (decide (hTau ≤ 4611686018427387903)) then (bif (decide (hOid ≥ 0)) then (bif (decide (hOid < 64)) then (bif (hR == 0) then (bif (decide (hDelta ≥ (-1099511627776))) then (bif (decide (hDelta ≤ 1099511627776)) then (.bool true) else (.bool false)) else (.bool false)) else (bif (hR == 1) then (bif (decide (hDelta ≥ (-1099511627776))) then (bif (decide (hDelta ≤ 1099511627776)) then (.bool true) else (.bool false)) else (.bool false)) else (.bool false))) else (.bool false)) else (.bool false)) else (.bool false)) else (.bool false)))))
theorem tROne_run (hNull : Bool) (hTau : Int) (hOid : Int) (hR : Int) (hDelta : Int) (hId : Int) : ∃ hp, aCall Try.prog E1 61 70 [.agg #[.bool hNull, .int .i64 hTau, .int .i64 hOid, .int .i64 hR, .int .i64 hDelta, .int .i64 hId]] hp0 = some (tROne hNull hTau hOid hR hDelta hId, hp) := by
  cases hNull with
  | true =>
    cases h0 : (decide (hId < 0)) with
    | true =>
      have e : tROne true hTau hOid hR hDelta hId = (.bool false) := by simp only [tROne, h0, cond_true, cond_false]
      rw [e]
      exact callQ_run [(5, .bool true)] (q := [(some (.bool (decide (hId < 0))), .bool true)]) (by kernel_rfl) (Met.cons (met_bool h0) (Met.nil))
    | false =>
      cases h1 : (decide (hId ≥ 64)) with
      | true =>
        have e : tROne true hTau hOid hR hDelta hId = (.bool false) := by simp only [tROne, h0, h1, cond_true, cond_false]
        rw [e]
        exact callQ_run [(5, .bool false), (9, .bool true)] (q := [(some (.bool (decide (hId < 0))), .bool false), (some (.bool (decide (hId ≥ 64))), .bool true)]) (by kernel_rfl) (Met.cons (met_bool h0) (Met.cons (met_bool h1) (Met.nil)))
      | false =>
        cases h2 : (same23 (true) (hTau) (hOid) (hR) (hDelta) (hId) (true) (0) (0) (0) (0) (hId)) with
        | true =>
          have e : tROne true hTau hOid hR hDelta hId = (.bool true) := by simp only [tROne, h0, h1, h2, cond_true, cond_false]
          rw [e]
          exact callQ_run [(5, .bool false), (9, .bool false), (17, .bool true)] (q := [(some (.bool (decide (hId < 0))), .bool false), (some (.bool (decide (hId ≥ 64))), .bool false), (fstV ((aBin Try.prog .eql 23 (.agg #[.bool true, .int .i64 hTau, .int .i64 hOid, .int .i64 hR, .int .i64 hDelta, .int .i64 hId]) (.agg #[.bool true, .int .i64 0, .int .i64 0, .int .i64 0, .int .i64 0, .int .i64 hId])).map fun v => (v, none)), .bool true)]) (by kernel_rfl) (Met.cons (met_bool h0) (Met.cons (met_bool h1) (Met.cons ((eql23 ..).trans (met_bool h2)) (Met.nil))))
        | false =>
          have e : tROne true hTau hOid hR hDelta hId = (.bool false) := by simp only [tROne, h0, h1, h2, cond_true, cond_false]
          rw [e]
          exact callQ_run [(5, .bool false), (9, .bool false), (17, .bool false)] (q := [(some (.bool (decide (hId < 0))), .bool false), (some (.bool (decide (hId ≥ 64))), .bool false), (fstV ((aBin Try.prog .eql 23 (.agg #[.bool true, .int .i64 hTau, .int .i64 hOid, .int .i64 hR, .int .i64 hDelta, .int .i64 hId]) (.agg #[.bool true, .int .i64 0, .int .i64 0, .int .i64 0, .int .i64 0, .int .i64 hId])).map fun v => (v, none)), .bool false)]) (by kernel_rfl) (Met.cons (met_bool h0) (Met.cons (met_bool h1) (Met.cons ((eql23 ..).trans (met_bool h2)) (Met.nil))))
  | false =>
    cases h0 : (decide (hId < 0)) with
    | true =>
      have e : tROne false hTau hOid hR hDelta hId = (.bool false) := by simp only [tROne, h0, cond_true, cond_false]
      rw [e]
      exact callQ_run [(5, .bool true)] (q := [(some (.bool (decide (hId < 0))), .bool true)]) (by kernel_rfl) (Met.cons (met_bool h0) (Met.nil))
    | false =>
      cases h1 : (decide (hId ≥ 64)) with
      | true =>
        have e : tROne false hTau hOid hR hDelta hId = (.bool false) := by simp only [tROne, h0, h1, cond_true, cond_false]
        rw [e]
        exact callQ_run [(5, .bool false), (9, .bool true)] (q := [(some (.bool (decide (hId < 0))), .bool false), (some (.bool (decide (hId ≥ 64))), .bool true)]) (by kernel_rfl) (Met.cons (met_bool h0) (Met.cons (met_bool h1) (Met.nil)))
      | false =>
        cases h2 : (decide (hTau ≥ 0)) with
        | true =>
          cases h3 : (decide (hTau ≤ 4611686018427387903)) with
          | true =>
            cases h4 : (decide (hOid ≥ 0)) with
            | true =>
              cases h5 : (decide (hOid < 64)) with
              | true =>
                cases h6 : (hR == 0) with
                | true =>
                  cases h7 : (decide (hDelta ≥ (-1099511627776))) with
                  | true =>
                    cases h8 : (decide (hDelta ≤ 1099511627776)) with
                    | true =>
                      have e : tROne false hTau hOid hR hDelta hId = (.bool true) := by simp only [tROne, h0, h1, h2, h3, h4, h5, h6, h7, h8, cond_true, cond_false]
                      rw [e]
                      exact callQ_run [(5, .bool false), (9, .bool false), (20, .bool true), (24, .bool true), (29, .bool true), (34, .bool true), (39, .bool true), (49, .bool true), (54, .bool true)] (q := [(some (.bool (decide (hId < 0))), .bool false), (some (.bool (decide (hId ≥ 64))), .bool false), (some (.bool (decide (hTau ≥ 0))), .bool true), (some (.bool (decide (hTau ≤ 4611686018427387903))), .bool true), (some (.bool (decide (hOid ≥ 0))), .bool true), (some (.bool (decide (hOid < 64))), .bool true), (some (.bool (hR == 0)), .bool true), (some (.bool (decide (hDelta ≥ (-1099511627776)))), .bool true), (some (.bool (decide (hDelta ≤ 1099511627776))), .bool true)]) (by kernel_rfl) (Met.cons (met_bool h0) (Met.cons (met_bool h1) (Met.cons (met_bool h2) (Met.cons (met_bool h3) (Met.cons (met_bool h4) (Met.cons (met_bool h5) (Met.cons (met_bool h6) (Met.cons (met_bool h7) (Met.cons (met_bool h8) (Met.nil))))))))))
                    | false =>
                      have e : tROne false hTau hOid hR hDelta hId = (.bool false) := by simp only [tROne, h0, h1, h2, h3, h4, h5, h6, h7, h8, cond_true, cond_false]
                      rw [e]
                      exact callQ_run [(5, .bool false), (9, .bool false), (20, .bool true), (24, .bool true), (29, .bool true), (34, .bool true), (39, .bool true), (49, .bool true), (54, .bool false)] (q := [(some (.bool (decide (hId < 0))), .bool false), (some (.bool (decide (hId ≥ 64))), .bool false), (some (.bool (decide (hTau ≥ 0))), .bool true), (some (.bool (decide (hTau ≤ 4611686018427387903))), .bool true), (some (.bool (decide (hOid ≥ 0))), .bool true), (some (.bool (decide (hOid < 64))), .bool true), (some (.bool (hR == 0)), .bool true), (some (.bool (decide (hDelta ≥ (-1099511627776)))), .bool true), (some (.bool (decide (hDelta ≤ 1099511627776))), .bool false)]) (by kernel_rfl) (Met.cons (met_bool h0) (Met.cons (met_bool h1) (Met.cons (met_bool h2) (Met.cons (met_bool h3) (Met.cons (met_bool h4) (Met.cons (met_bool h5) (Met.cons (met_bool h6) (Met.cons (met_bool h7) (Met.cons (met_bool h8) (Met.nil))))))))))
                  | false =>
                    have e : tROne false hTau hOid hR hDelta hId = (.bool false) := by simp only [tROne, h0, h1, h2, h3, h4, h5, h6, h7, cond_true, cond_false]
                    rw [e]
                    exact callQ_run [(5, .bool false), (9, .bool false), (20, .bool true), (24, .bool true), (29, .bool true), (34, .bool true), (39, .bool true), (49, .bool false)] (q := [(some (.bool (decide (hId < 0))), .bool false), (some (.bool (decide (hId ≥ 64))), .bool false), (some (.bool (decide (hTau ≥ 0))), .bool true), (some (.bool (decide (hTau ≤ 4611686018427387903))), .bool true), (some (.bool (decide (hOid ≥ 0))), .bool true), (some (.bool (decide (hOid < 64))), .bool true), (some (.bool (hR == 0)), .bool true), (some (.bool (decide (hDelta ≥ (-1099511627776)))), .bool false)]) (by kernel_rfl) (Met.cons (met_bool h0) (Met.cons (met_bool h1) (Met.cons (met_bool h2) (Met.cons (met_bool h3) (Met.cons (met_bool h4) (Met.cons (met_bool h5) (Met.cons (met_bool h6) (Met.cons (met_bool h7) (Met.nil)))))))))
                | false =>
                  cases h7 : (hR == 1) with
                  | true =>
                    cases h8 : (decide (hDelta ≥ (-1099511627776))) with
                    | true =>
                      cases h9 : (decide (hDelta ≤ 1099511627776)) with
                      | true =>
                        have e : tROne false hTau hOid hR hDelta hId = (.bool true) := by simp only [tROne, h0, h1, h2, h3, h4, h5, h6, h7, h8, h9, cond_true, cond_false]
                        rw [e]
                        exact callQ_run [(5, .bool false), (9, .bool false), (20, .bool true), (24, .bool true), (29, .bool true), (34, .bool true), (39, .bool false), (43, .bool true), (49, .bool true), (54, .bool true)] (q := [(some (.bool (decide (hId < 0))), .bool false), (some (.bool (decide (hId ≥ 64))), .bool false), (some (.bool (decide (hTau ≥ 0))), .bool true), (some (.bool (decide (hTau ≤ 4611686018427387903))), .bool true), (some (.bool (decide (hOid ≥ 0))), .bool true), (some (.bool (decide (hOid < 64))), .bool true), (some (.bool (hR == 0)), .bool false), (some (.bool (hR == 1)), .bool true), (some (.bool (decide (hDelta ≥ (-1099511627776)))), .bool true), (some (.bool (decide (hDelta ≤ 1099511627776))), .bool true)]) (by kernel_rfl) (Met.cons (met_bool h0) (Met.cons (met_bool h1) (Met.cons (met_bool h2) (Met.cons (met_bool h3) (Met.cons (met_bool h4) (Met.cons (met_bool h5) (Met.cons (met_bool h6) (Met.cons (met_bool h7) (Met.cons (met_bool h8) (Met.cons (met_bool h9) (Met.nil)))))))))))
                      | false =>
                        have e : tROne false hTau hOid hR hDelta hId = (.bool false) := by simp only [tROne, h0, h1, h2, h3, h4, h5, h6, h7, h8, h9, cond_true, cond_false]
                        rw [e]
                        exact callQ_run [(5, .bool false), (9, .bool false), (20, .bool true), (24, .bool true), (29, .bool true), (34, .bool true), (39, .bool false), (43, .bool true), (49, .bool true), (54, .bool false)] (q := [(some (.bool (decide (hId < 0))), .bool false), (some (.bool (decide (hId ≥ 64))), .bool false), (some (.bool (decide (hTau ≥ 0))), .bool true), (some (.bool (decide (hTau ≤ 4611686018427387903))), .bool true), (some (.bool (decide (hOid ≥ 0))), .bool true), (some (.bool (decide (hOid < 64))), .bool true), (some (.bool (hR == 0)), .bool false), (some (.bool (hR == 1)), .bool true), (some (.bool (decide (hDelta ≥ (-1099511627776)))), .bool true), (some (.bool (decide (hDelta ≤ 1099511627776))), .bool false)]) (by kernel_rfl) (Met.cons (met_bool h0) (Met.cons (met_bool h1) (Met.cons (met_bool h2) (Met.cons (met_bool h3) (Met.cons (met_bool h4) (Met.cons (met_bool h5) (Met.cons (met_bool h6) (Met.cons (met_bool h7) (Met.cons (met_bool h8) (Met.cons (met_bool h9) (Met.nil)))))))))))
                    | false =>
                      have e : tROne false hTau hOid hR hDelta hId = (.bool false) := by simp only [tROne, h0, h1, h2, h3, h4, h5, h6, h7, h8, cond_true, cond_false]
                      rw [e]
                      exact callQ_run [(5, .bool false), (9, .bool false), (20, .bool true), (24, .bool true), (29, .bool true), (34, .bool true), (39, .bool false), (43, .bool true), (49, .bool false)] (q := [(some (.bool (decide (hId < 0))), .bool false), (some (.bool (decide (hId ≥ 64))), .bool false), (some (.bool (decide (hTau ≥ 0))), .bool true), (some (.bool (decide (hTau ≤ 4611686018427387903))), .bool true), (some (.bool (decide (hOid ≥ 0))), .bool true), (some (.bool (decide (hOid < 64))), .bool true), (some (.bool (hR == 0)), .bool false), (some (.bool (hR == 1)), .bool true), (some (.bool (decide (hDelta ≥ (-1099511627776)))), .bool false)]) (by kernel_rfl) (Met.cons (met_bool h0) (Met.cons (met_bool h1) (Met.cons (met_bool h2) (Met.cons (met_bool h3) (Met.cons (met_bool h4) (Met.cons (met_bool h5) (Met.cons (met_bool h6) (Met.cons (met_bool h7) (Met.cons (met_bool h8) (Met.nil))))))))))
                  | false =>
                    have e : tROne false hTau hOid hR hDelta hId = (.bool false) := by simp only [tROne, h0, h1, h2, h3, h4, h5, h6, h7, cond_true, cond_false]
                    rw [e]
                    exact callQ_run [(5, .bool false), (9, .bool false), (20, .bool true), (24, .bool true), (29, .bool true), (34, .bool true), (39, .bool false), (43, .bool false)] (q := [(some (.bool (decide (hId < 0))), .bool false), (some (.bool (decide (hId ≥ 64))), .bool false), (some (.bool (decide (hTau ≥ 0))), .bool true), (some (.bool (decide (hTau ≤ 4611686018427387903))), .bool true), (some (.bool (decide (hOid ≥ 0))), .bool true), (some (.bool (decide (hOid < 64))), .bool true), (some (.bool (hR == 0)), .bool false), (some (.bool (hR == 1)), .bool false)]) (by kernel_rfl) (Met.cons (met_bool h0) (Met.cons (met_bool h1) (Met.cons (met_bool h2) (Met.cons (met_bool h3) (Met.cons (met_bool h4) (Met.cons (met_bool h5) (Met.cons (met_bool h6) (Met.cons (met_bool h7) (Met.nil)))))))))
              | false =>
                have e : tROne false hTau hOid hR hDelta hId = (.bool false) := by simp only [tROne, h0, h1, h2, h3, h4, h5, cond_true, cond_false]
                rw [e]
                exact callQ_run [(5, .bool false), (9, .bool false), (20, .bool true), (24, .bool true), (29, .bool true), (34, .bool false)] (q := [(some (.bool (decide (hId < 0))), .bool false), (some (.bool (decide (hId ≥ 64))), .bool false), (some (.bool (decide (hTau ≥ 0))), .bool true), (some (.bool (decide (hTau ≤ 4611686018427387903))), .bool true), (some (.bool (decide (hOid ≥ 0))), .bool true), (some (.bool (decide (hOid < 64))), .bool false)]) (by kernel_rfl) (Met.cons (met_bool h0) (Met.cons (met_bool h1) (Met.cons (met_bool h2) (Met.cons (met_bool h3) (Met.cons (met_bool h4) (Met.cons (met_bool h5) (Met.nil)))))))
            | false =>
              have e : tROne false hTau hOid hR hDelta hId = (.bool false) := by simp only [tROne, h0, h1, h2, h3, h4, cond_true, cond_false]
              rw [e]
              exact callQ_run [(5, .bool false), (9, .bool false), (20, .bool true), (24, .bool true), (29, .bool false)] (q := [(some (.bool (decide (hId < 0))), .bool false), (some (.bool (decide (hId ≥ 64))), .bool false), (some (.bool (decide (hTau ≥ 0))), .bool true), (some (.bool (decide (hTau ≤ 4611686018427387903))), .bool true), (some (.bool (decide (hOid ≥ 0))), .bool false)]) (by kernel_rfl) (Met.cons (met_bool h0) (Met.cons (met_bool h1) (Met.cons (met_bool h2) (Met.cons (met_bool h3) (Met.cons (met_bool h4) (Met.nil))))))
          | false =>
            have e : tROne false hTau hOid hR hDelta hId = (.bool false) := by simp only [tROne, h0, h1, h2, h3, cond_true, cond_false]
            rw [e]
            exact callQ_run [(5, .bool false), (9, .bool false), (20, .bool true), (24, .bool false)] (q := [(some (.bool (decide (hId < 0))), .bool false), (some (.bool (decide (hId ≥ 64))), .bool false), (some (.bool (decide (hTau ≥ 0))), .bool true), (some (.bool (decide (hTau ≤ 4611686018427387903))), .bool false)]) (by kernel_rfl) (Met.cons (met_bool h0) (Met.cons (met_bool h1) (Met.cons (met_bool h2) (Met.cons (met_bool h3) (Met.nil)))))
        | false =>
          have e : tROne false hTau hOid hR hDelta hId = (.bool false) := by simp only [tROne, h0, h1, h2, cond_true, cond_false]
          rw [e]
          exact callQ_run [(5, .bool false), (9, .bool false), (20, .bool false)] (q := [(some (.bool (decide (hId < 0))), .bool false), (some (.bool (decide (hId ≥ 64))), .bool false), (some (.bool (decide (hTau ≥ 0))), .bool false)]) (by kernel_rfl) (Met.cons (met_bool h0) (Met.cons (met_bool h1) (Met.cons (met_bool h2) (Met.nil))))


/-- Is a height right, by the document's answer? -/
def r70 (n : Bool) (t o r d i : Int) : Bool :=
  bif n then decide (i ≥ 0) && (decide (i < 64) && same23 n t o r d i true 0 0 0 0 i)
  else decide (i ≥ 0) && (decide (i < 64) && (decide (t ≥ 0) && (decide (t ≤ 4611686018427387903) && (decide (o ≥ 0) && (decide (o < 64) && ((r == 0 || r == 1) && (decide (d ≥ (-1099511627776)) && decide (d ≤ 1099511627776))))))))
theorem half01 (r : Int) : (r == 0 || r == 1) = (Int.fdiv r (2 ^ (min (Int.toNat 1) 64)) == 0) := by
  have e : Int.fdiv r (2 ^ (min (Int.toNat 1) 64)) = r / 2 := by
    show Int.fdiv r 2 = _
    rw [Int.fdiv_eq_ediv_of_nonneg _ (by decide)]
  rw [e]
  rcases Decidable.em (r = 0) with h | h
  · subst h; rfl
  · rcases Decidable.em (r = 1) with h1 | h1
    · subst h1; rfl
    · rw [beq_false_of_ne h, beq_false_of_ne h1, beq_false_of_ne (by omega)]; rfl
theorem r70_ok (n : Bool) (t o r d i : Int) : r70 n t o r d i = okH n t o r d i := by
  unfold r70 okH
  rw [half01]
theorem tROne_eq (n : Bool) (t o r d i : Int) : tROne n t o r d i = .bool (okH n t o r d i) := by
  have a : decide (i < 0) = !decide (i ≥ 0) := by
    cases h : decide (i ≥ 0) with
    | true => exact decide_eq_false (by have := of_decide_eq_true h; omega)
    | false => exact decide_eq_true (by have := of_decide_eq_false h; omega)
  have b : decide (i ≥ 64) = !decide (i < 64) := by
    cases h : decide (i < 64) with
    | true => exact decide_eq_false (by have := of_decide_eq_true h; omega)
    | false => exact decide_eq_true (by have := of_decide_eq_false h; omega)
  rw [← r70_ok]
  unfold tROne r70
  rw [a, b]
  cases n
  · generalize decide (i ≥ 0) = x1
    generalize decide (i < 64) = x2
    generalize decide (t ≥ 0) = x3
    generalize decide (t ≤ 4611686018427387903) = x4
    generalize decide (o ≥ 0) = x5
    generalize decide (o < 64) = x6
    generalize (r == 0) = x7
    generalize (r == 1) = x8
    generalize decide (d ≥ (-1099511627776)) = x9
    generalize decide (d ≤ 1099511627776) = x10
    cases x1
    · rfl
    cases x2
    · rfl
    cases x3
    · rfl
    cases x4
    · rfl
    cases x5
    · rfl
    cases x6
    · rfl
    cases x7 <;> cases x8 <;> cases x9 <;> cases x10 <;> rfl
  · generalize decide (i ≥ 0) = x1
    generalize decide (i < 64) = x2
    generalize same23 true t o r d i true 0 0 0 0 i = x3
    cases x1 <;> cases x2 <;> cases x3 <;> rfl
def g70 : List Value → Option Value
  | [.agg c0] => match c0.toList with
    | [.bool hn, .int .i64 ht, .int .i64 ho, .int .i64 hr, .int .i64 hd, .int .i64 hi] => some (.bool (okH hn ht ho hr hd hi))
    | _ => none
  | _ => none
theorem hk70 : HookGoal Try.prog 70 g70 := hook_of (ext := E1) E1_ok follows Try.func70 (by kernel_rfl) fun args v h => by
  unfold g70 at h
  split at h
  · rename_i c0
    split at h
    · rename_i ec0
      cases h
      obtain rfl := arr_of ec0
      refine ⟨rfl, rfl, ?_⟩
      obtain ⟨hp, q⟩ := tROne_run _ _ _ _ _ _
      rw [tROne_eq] at q
      exact ⟨_, hp, q⟩
    · cases h
  · cases h

/-! ### thalwegref12.Right -/
noncomputable def E43 : Ext := extH Try.prog [(70, g70)]
noncomputable def c43 : CallF := aCall Try.prog E43 5
theorem c43_ok : CallOk Try.prog c43 := aCall_sound (by unfold E43; exact extH_ok (.cons hk70 .nil)) follows 5
noncomputable def fb43 : Code := (Try.f43.body).getD .skip
noncomputable def c43a : Code := sL fb43
noncomputable def c43b : Code := sL (sL (sR fb43))
noncomputable def c43c : Code := unL (unB (sR (sL (sR fb43))))
noncomputable def c43d : Code := sR (sR fb43)
noncomputable abbrev code43 : Code := .seq c43a (.seq (.seq c43b (.block 0 (.loop c43c))) c43d)
theorem body43 : Try.f43.body = some code43 := by kernel_rfl
theorem ntmps43 : Try.f43.ntmps = 52 := by kernel_rfl
theorem s43a : codeSafe Try.prog 52 c43a = true := by kernel_rfl
theorem s43b : codeSafe Try.prog 52 c43b = true := by kernel_rfl
theorem s43c : codeSafe Try.prog 52 c43c = true := by kernel_rfl
theorem s43d : codeSafe Try.prog 52 c43d = true := by kernel_rfl
theorem s43 : codeSafe Try.prog 52 code43 = true := by kernel_rfl
theorem q43 (v : Value) (O : List Blk) (g : Nat → Value) : retVal Try.prog Try.f43 (stOf 52 g [(2, v)] O) = some v := by kernel_rfl
section
variable (o : Blk) (n c : Nat)
abbrev B43 : St := ⟨tmsOf [rowS 0 n c] 0 .leaf, heapOf [o, .dead] hp0, []⟩
abbrev A43 (g : Nat → Value) : St := stOf 52 g [(0, rowS 0 n c)] [o]
abbrev L43 (i : Nat) (g : Nat → Value) : St := stOf 52 g [(0, rowS 0 n c), (3, iN i)] [o]
abbrev X43 (g : Nat → Value) : St := stOf 52 g [] []
theorem r43a : (execE Try.prog c43 [] [] [] 10 c43a (B43 o n c)).map (fun y => (look2 1 [0] [0] (y.1, y.2.1), y.2.2)) = some ((.normal, [o], [(0, rowS 0 n c)], true), [], [], []) := by kernel_rfl
theorem r43b (g : Nat → Value) : (execE Try.prog c43 [] [] [] 10 c43b (A43 o n c g)).map (fun y => (look2 1 [0] [0, 3] (y.1, y.2.1), y.2.2)) = some ((.normal, [o], [(0, rowS 0 n c), (3, iN 0)], true), [], [], []) := by kernel_rfl
theorem r43x (i : Nat) (g : Nat → Value) : (execE Try.prog c43 [(8, .bool false)] [] [] 20 c43c (L43 o n c i g)).map (fun y => (look2 0 [] [] (y.1, y.2.1), y.2.2)) =
    some ((.exit 0, [], [], true), [(some (.bool (decide (Int.ofNat i < Int.ofNat n))), .bool false)], [], []) := by kernel_rfl
theorem r43d (g : Nat → Value) : (execE Try.prog c43 [] [] [] 10 c43d (X43 g)).map (fun y => (look2 0 [] [2] (y.1, y.2.1), y.2.2)) = some ((.ret, [], [(2, .bool true)], true), [], [], []) := by kernel_rfl
theorem r43n : (execQ Try.prog c43 [] 40 code43 ⟨tmsOf [nilS] 0 .leaf, heapOf [.dead] hp0, []⟩).map (fun y => (look2 0 [] [2] (y.1, y.2.1), y.2.2)) = some ((.ret, [], [(2, .bool true)], true), []) := by kernel_rfl
noncomputable def owe43 (i : Nat) (x : ViewV) : List Obl :=
  [(some (.bool (decide (Int.ofNat i < Int.ofNat n))), .bool true), ixO 0 n c i, ldO (heapOf ([o] ++ [.dead]) hp0).get 34 0 (i * 7) (.agg ⟨vc x⟩)]
def see43 (i : Nat) (x : ViewV) : List (Tmp × Value) := [(8, .bool true), (13, pb 0 (i * 7)), (14, .agg ⟨vc x⟩)]
/-- Too low an id. -/
theorem r43f (i : Nat) (x : ViewV) (g : Nat → Value) : (execE Try.prog c43 (see43 i x ++ [(17, .bool true)]) [] [] 20 c43c (L43 o n c i g)).map (fun y => (look2 0 [] [2] (y.1, y.2.1), y.2.2)) =
    some ((.ret, [], [(2, .bool false)], true), owe43 o n c i x ++ [(some (.bool (decide (x.id < 0))), .bool true)], [], []) := by kernel_rfl
/-- Too high an id. -/
theorem r43g (i : Nat) (x : ViewV) (g : Nat → Value) : (execE Try.prog c43 (see43 i x ++ [(17, .bool false), (21, .bool true)]) [] [] 20 c43c (L43 o n c i g)).map (fun y => (look2 0 [] [2] (y.1, y.2.1), y.2.2)) =
    some ((.ret, [], [(2, .bool false)], true), owe43 o n c i x ++ [(some (.bool (decide (x.id < 0))), .bool false), (some (.bool (decide (x.id ≥ 64))), .bool true)], [], []) := by kernel_rfl
noncomputable def pre43 (i : Nat) (x : ViewV) : List Obl := owe43 o n c i x ++ [(some (.bool (decide (x.id < 0))), .bool false), (some (.bool (decide (x.id ≥ 64))), .bool false)]
def sea43 (i : Nat) (x : ViewV) : List (Tmp × Value) := see43 i x ++ [(17, .bool false), (21, .bool false)]
noncomputable def two43 (j : Nat) (x u : ViewV) : List Obl := pre43 o n c (j + 1) x ++ [(some (.bool (decide (Int.ofNat (j + 1) > 0))), .bool true), (some (.int .i64 (wrapF .i64 (Int.ofNat (j + 1) - 1))), iN j), ixO 0 n c j, ldO (heapOf ([o] ++ [.dead]) hp0).get 3 0 (j * 7) (.int .i64 u.id)]
def seb43 (j : Nat) (x u : ViewV) : List (Tmp × Value) := sea43 (j + 1) x ++ [(25, .bool true), (29, iN j), (30, pb 0 (j * 7)), (32, .int .i64 u.id)]
def okV (x : ViewV) : Bool := okH x.n x.t x.o x.r x.d x.i
/-- No more than the one before. -/
theorem r43h (j : Nat) (x u : ViewV) (g : Nat → Value) : (execE Try.prog c43 (seb43 j x u ++ [(35, .bool true)]) [] [] 20 c43c (L43 o n c (j + 1) g)).map (fun y => (look2 0 [] [2] (y.1, y.2.1), y.2.2)) =
    some ((.ret, [], [(2, .bool false)], true), two43 o n c j x u ++ [(some (.bool (decide (u.id ≥ x.id))), .bool true)], [], []) := by kernel_rfl
/-- The first one: a height that is not right. -/
theorem r43i (x : ViewV) (g : Nat → Value) : (execE Try.prog c43 (sea43 0 x ++ [(25, .bool false), (42, .bool true)]) [] [] 20 c43c (L43 o n c 0 g)).map (fun y => (look2 0 [] [2] (y.1, y.2.1), y.2.2)) =
    some ((.ret, [], [(2, .bool false)], true), pre43 o n c 0 x ++ [(some (.bool (decide (Int.ofNat 0 > 0))), .bool false), (some (.bool (!okV x)), .bool true)], [], []) := by kernel_rfl
theorem r43j (x : ViewV) (g : Nat → Value) : (execE Try.prog c43 (sea43 0 x ++ [(25, .bool false), (42, .bool false), (50, .bool true)]) [] [] 20 c43c (L43 o n c 0 g)).map (fun y => (look2 0 [] [2] (y.1, y.2.1), y.2.2)) =
    some ((.ret, [], [(2, .bool false)], true), pre43 o n c 0 x ++ [(some (.bool (decide (Int.ofNat 0 > 0))), .bool false), (some (.bool (!okV x)), .bool false), (some (.bool (x.i != x.id)), .bool true)], [], []) := by kernel_rfl
theorem r43k (x : ViewV) (g : Nat → Value) : (execE Try.prog c43 (sea43 0 x ++ [(25, .bool false), (42, .bool false), (50, .bool false), (10, iN (0 + 1))]) [] [] 20 c43c (L43 o n c 0 g)).map (fun y => (look2 1 [0] [0, 3] (y.1, y.2.1), y.2.2)) =
    some ((.normal, [o], [(0, rowS 0 n c), (3, iN (0 + 1))], true), pre43 o n c 0 x ++ [(some (.bool (decide (Int.ofNat 0 > 0))), .bool false), (some (.bool (!okV x)), .bool false), (some (.bool (x.i != x.id)), .bool false), nxt29 0], [], []) := by kernel_rfl
/-- A later one. -/
theorem r43l (j : Nat) (x u : ViewV) (g : Nat → Value) : (execE Try.prog c43 (seb43 j x u ++ [(35, .bool false), (42, .bool true)]) [] [] 20 c43c (L43 o n c (j + 1) g)).map (fun y => (look2 0 [] [2] (y.1, y.2.1), y.2.2)) =
    some ((.ret, [], [(2, .bool false)], true), two43 o n c j x u ++ [(some (.bool (decide (u.id ≥ x.id))), .bool false), (some (.bool (!okV x)), .bool true)], [], []) := by kernel_rfl
theorem r43m (j : Nat) (x u : ViewV) (g : Nat → Value) : (execE Try.prog c43 (seb43 j x u ++ [(35, .bool false), (42, .bool false), (50, .bool true)]) [] [] 20 c43c (L43 o n c (j + 1) g)).map (fun y => (look2 0 [] [2] (y.1, y.2.1), y.2.2)) =
    some ((.ret, [], [(2, .bool false)], true), two43 o n c j x u ++ [(some (.bool (decide (u.id ≥ x.id))), .bool false), (some (.bool (!okV x)), .bool false), (some (.bool (x.i != x.id)), .bool true)], [], []) := by kernel_rfl
theorem r43o (j : Nat) (x u : ViewV) (g : Nat → Value) : (execE Try.prog c43 (seb43 j x u ++ [(35, .bool false), (42, .bool false), (50, .bool false), (10, iN (j + 1 + 1))]) [] [] 20 c43c (L43 o n c (j + 1) g)).map (fun y => (look2 1 [0] [0, 3] (y.1, y.2.1), y.2.2)) =
    some ((.normal, [o], [(0, rowS 0 n c), (3, iN (j + 1 + 1))], true), two43 o n c j x u ++ [(some (.bool (decide (u.id ≥ x.id))), .bool false), (some (.bool (!okV x)), .bool false), (some (.bool (x.i != x.id)), .bool false), nxt29 (j + 1)], [], []) := by kernel_rfl
end
theorem oneV_parts {x : ViewV} : oneV x = (decide (x.id ≥ 0) && (decide (x.id < 64) && ((x.i == x.id) && okV x))) := by
  unfold oneV oneB okV chk
  cases okH x.n x.t x.o x.r x.d x.i <;> rfl
def EndsR (vs : List ViewV) (e : Exit) (st : St) : Prop := e = .ret ∧ ∃ g, st = stOf 52 g [(2, .bool (rightB vs))] []
theorem right_fr (o : Blk) (ho : inertB o = true) (vs : List ViewV) (hn : vs.length < 1000000) (hrow : Holds vs o) (c : Nat) (W : Base) :
    FRwp Try.prog 52 W code43 (B43 o vs.length c) (EndsR vs) := by
  refine FRwp.seq (Q1 := fun x st => x = .normal ∧ ∃ g, st = A43 o vs.length c g) (FRwp.pieceY c43_ok follows 1 _ _ _ _ (r43a o vs.length c) Met.nil MetH.nil MetE.nil s43a rfl rfl (fix11 ho _) fun g => ⟨rfl, g, rfl⟩) ?_ (fun x st hne hq => absurd hq.1 hne)
  rintro st ⟨-, g, rfl⟩
  let Q2 : Exit → St → Prop := fun x st => (x = .normal ∧ rightB vs = true ∧ ∃ g, st = X43 g) ∨ (x = .ret ∧ EndsR vs x st)
  refine FRwp.seq (Q1 := Q2) ?_ ?_ ?_
  · refine FRwp.seq (Q1 := fun x st => x = .normal ∧ ∃ g, st = L43 o vs.length c 0 g) (FRwp.pieceY c43_ok follows 1 _ _ _ _ (r43b o vs.length c g) Met.nil MetH.nil MetE.nil s43b rfl rfl (fix11 ho _) fun g => ⟨rfl, g, rfl⟩) ?_ (fun x st hne hq => absurd hq.1 hne)
    rintro st ⟨-, g, rfl⟩
    refine FRwp.block ?_
    refine FRwp.loop (fun k st => ∃ i g, i ≤ vs.length ∧ k = vs.length - i ∧ (∀ j, j < i → rightAt vs j = true) ∧ st = L43 o vs.length c i g) ?_ (k := vs.length) ⟨0, g, Nat.zero_le _, rfl, fun j hj => absurd hj (Nat.not_lt_zero _), rfl⟩
    rintro k st ⟨i, g, hi, hk, hgood, rfl⟩
    cases h8 : decide (Int.ofNat i < Int.ofNat vs.length) with
    | false =>
      refine FRwp.pieceY c43_ok follows 0 _ _ _ _ (r43x o vs.length c i g) (Met.cons (met_bool h8) Met.nil) MetH.nil MetE.nil s43c rfl rfl (noFix _) fun g' => .inr ⟨by simp, ?_⟩
      show (if (0 : Nat) = 0 then Q2 .normal _ else Q2 (.exit 0) _)
      rw [if_pos rfl]
      have hii : i = vs.length := by simp at h8; omega
      subst hii
      exact .inl ⟨rfl, rightB_of hgood, g', rfl⟩
    | true =>
      have hlt : i < vs.length := by simpa using h8
      obtain ⟨x, hx⟩ : ∃ x, vs[i]? = some x := ⟨_, List.getElem?_eq_getElem hlt⟩
      have hat : RowAt (heapOf ([o] ++ [.dead]) hp0) 0 vs := rowAt0' (row_of_mem hrow (List.mem_of_getElem? hx))
      have hmet : Met (owe43 o vs.length c i x) := Met.cons (met_bool h8) (Met.cons (vidx_ok hlt) (Met.cons (vload_ok hat hx) Met.nil))
      have hno : ∀ (g' : Nat → Value), rightAt vs i = false → Q2 .ret (stOf 52 g' [(2, .bool false)] []) := fun g' h => .inr ⟨rfl, rfl, g', by rw [rightB_not hlt h]⟩
      have hone : oneV x = false → rightAt vs i = false := fun h => by unfold rightAt; rw [hx]; simp only [h, Bool.false_and]
      cases h17 : decide (x.id < 0) with
      | true =>
        refine FRwp.pieceY c43_ok follows 0 _ _ _ _ (r43f o vs.length c i x g) (met_app hmet (Met.cons (met_bool h17) Met.nil)) MetH.nil MetE.nil s43c rfl rfl (noFix _) fun g' => .inr ⟨by simp, hno _ (hone ?_)⟩
        rw [oneV_parts, show decide (x.id ≥ 0) = false from decide_eq_false (by have := of_decide_eq_true h17; omega)]; rfl
      | false =>
        have p1 : decide (x.id ≥ 0) = true := decide_eq_true (by have := of_decide_eq_false h17; omega)
        cases h21 : decide (x.id ≥ 64) with
        | true =>
          refine FRwp.pieceY c43_ok follows 0 _ _ _ _ (r43g o vs.length c i x g) (met_app hmet (Met.cons (met_bool h17) (Met.cons (met_bool h21) Met.nil))) MetH.nil MetE.nil s43c rfl rfl (noFix _) fun g' => .inr ⟨by simp, hno _ (hone ?_)⟩
          rw [oneV_parts, show decide (x.id < 64) = false from decide_eq_false (by have := of_decide_eq_true h21; omega), Bool.false_and, Bool.and_false]
        | false =>
          have p2 : decide (x.id < 64) = true := decide_eq_true (by have := of_decide_eq_false h21; omega)
          have hpre : Met (pre43 o vs.length c i x) := met_app hmet (Met.cons (met_bool h17) (Met.cons (met_bool h21) Met.nil))
          match i, hi, hk, hgood, hlt, hx, hat, hno, hone, hpre with
          | 0, hi, hk, hgood, hlt, hx, hat, hno, hone, hpre =>
            have h25 : (some (Value.bool (decide (Int.ofNat 0 > 0)))) = some (.bool false) := rfl
            cases h42 : okV x with
            | false =>
              refine FRwp.pieceY c43_ok follows 0 _ _ _ _ (r43i o vs.length c x g) (met_app hpre (Met.cons h25 (Met.cons (by rw [h42]; rfl) Met.nil))) MetH.nil MetE.nil s43c rfl rfl (noFix _) fun g' => .inr ⟨by simp, hno _ (hone ?_)⟩
              rw [oneV_parts, h42]; simp
            | true =>
              cases h50 : (x.i != x.id) with
              | true =>
                refine FRwp.pieceY c43_ok follows 0 _ _ _ _ (r43j o vs.length c x g) (met_app hpre (Met.cons h25 (Met.cons (by rw [h42]; rfl) (Met.cons (met_bool h50) Met.nil)))) MetH.nil MetE.nil s43c rfl rfl (noFix _) fun g' => .inr ⟨by simp, hno _ (hone ?_)⟩
                have : (x.i == x.id) = false := by simpa using h50
                rw [oneV_parts, this]; simp
              | false =>
                refine FRwp.pieceY c43_ok follows 1 _ _ _ _ (r43k o vs.length c x g) (met_app hpre (Met.cons h25 (Met.cons (by rw [h42]; rfl) (Met.cons (met_bool h50) (Met.cons (wrap_up (by omega)) Met.nil))))) MetH.nil MetE.nil s43c rfl rfl (fix11 ho _) fun g' => .inl ⟨rfl, vs.length - (0 + 1), by omega, 0 + 1, g', by omega, rfl, fun j hj => ?_, rfl⟩
                have : j = 0 := by omega
                subst this
                have p4 : (x.i == x.id) = true := by simpa using h50
                unfold rightAt
                rw [hx]
                simp only [oneV_parts, p1, p2, p4, h42, Bool.and_self]
          | i + 1, hi, hk, hgood, hlt, hx, hat, hno, hone, hpre =>
            obtain ⟨u, hu⟩ : ∃ u, vs[i]? = some u := ⟨_, List.getElem?_eq_getElem (by omega)⟩
            have htwo : Met (two43 o vs.length c i x u) := met_app hpre (Met.cons (met_bool (decide_eq_true (by simp only [Int.ofNat_eq_natCast]; omega))) (Met.cons (wrap_down (by omega)) (Met.cons (vidx_ok (by omega)) (Met.cons (vcell_ok hat hu) Met.nil))))
            cases h35 : decide (u.id ≥ x.id) with
            | true =>
              refine FRwp.pieceY c43_ok follows 0 _ _ _ _ (r43h o vs.length c i x u g) (met_app htwo (Met.cons (met_bool h35) Met.nil)) MetH.nil MetE.nil s43c rfl rfl (noFix _) fun g' => .inr ⟨by simp, hno _ ?_⟩
              unfold rightAt
              rw [hx]
              simp only [hu]
              rw [show decide (u.id < x.id) = false from decide_eq_false (by have := of_decide_eq_true h35; omega), Bool.and_false]
            | false =>
              cases h42 : okV x with
              | false =>
                refine FRwp.pieceY c43_ok follows 0 _ _ _ _ (r43l o vs.length c i x u g) (met_app htwo (Met.cons (met_bool h35) (Met.cons (by rw [h42]; rfl) Met.nil))) MetH.nil MetE.nil s43c rfl rfl (noFix _) fun g' => .inr ⟨by simp, hno _ (hone ?_)⟩
                rw [oneV_parts, h42]; simp
              | true =>
                cases h50 : (x.i != x.id) with
                | true =>
                  refine FRwp.pieceY c43_ok follows 0 _ _ _ _ (r43m o vs.length c i x u g) (met_app htwo (Met.cons (met_bool h35) (Met.cons (by rw [h42]; rfl) (Met.cons (met_bool h50) Met.nil)))) MetH.nil MetE.nil s43c rfl rfl (noFix _) fun g' => .inr ⟨by simp, hno _ (hone ?_)⟩
                  have : (x.i == x.id) = false := by simpa using h50
                  rw [oneV_parts, this]; simp
                | false =>
                  refine FRwp.pieceY c43_ok follows 1 _ _ _ _ (r43o o vs.length c i x u g) (met_app htwo (Met.cons (met_bool h35) (Met.cons (by rw [h42]; rfl) (Met.cons (met_bool h50) (Met.cons (wrap_up (by omega)) Met.nil))))) MetH.nil MetE.nil s43c rfl rfl (fix11 ho _) fun g' => .inl ⟨rfl, vs.length - (i + 1 + 1), by omega, i + 1 + 1, g', by omega, rfl, fun j hj => ?_, rfl⟩
                  rcases Nat.lt_succ_iff_lt_or_eq.1 hj with h' | h'
                  · exact hgood j h'
                  · subst h'
                    have p4 : (x.i == x.id) = true := by simpa using h50
                    unfold rightAt
                    rw [hx]
                    simp only [oneV_parts, p1, p2, p4, h42, hu, Bool.and_self, Bool.true_and]
                    exact decide_eq_true (by have := of_decide_eq_false h35; omega)
  · rintro st (⟨-, hf, g, rfl⟩ | ⟨h, -⟩)
    · refine FRwp.pieceY c43_ok follows 0 _ _ _ _ (r43d g) Met.nil MetH.nil MetE.nil s43d rfl rfl (noFix _) fun g' => ⟨rfl, g', ?_⟩
      rw [hf]
    · cases h
  · rintro x st hne (⟨h, -⟩ | ⟨-, h⟩)
    · exact absurd h hne
    · exact h
theorem right_nil (W : Base) : FRwp Try.prog 52 W code43 ⟨tmsOf [nilS] 0 .leaf, heapOf [.dead] hp0, []⟩ (EndsR []) :=
  FRwp.piece c43_ok follows 0 _ _ _ _ r43n Met.nil s43 rfl rfl rfl (noFix _) fun g => ⟨rfl, g, rfl⟩
open Classical in
noncomputable def g43 (vs : List ViewV) : HeapFn := fun args hp => match args with
  | [s] => if TQ vs s hp then some (.bool (rightB vs), heapOf ([] ++ [.dead]) hp) else none
  | _ => none
theorem hk43 (vs : List ViewV) (hn : vs.length < 1000000) : CallGoal Try.prog 43 (g43 vs) := scan_goal follows Try.func43 body43 (by kernel_rfl) fun args hp v hp' h hk => by
  unfold g43 at h
  rw [ntmps43]
  split at h
  case h_2 => cases h
  rename_i s
  split at h
  case isFalse => cases h
  rename_i hT
  cases h
  have fin : ∀ {e : Exit} {st : St}, EndsR vs e st → (e = .normal ∨ e = .ret) ∧ st.df = [] ∧ ∃ v0, retVal Try.prog Try.f43 st = some v0 ∧ ok3 v0 = true ∧
      (∀ b ∈ ([] : List Nat), ∃ o, st.hp.get b = some o ∧ okBlk o = true ∧ rwB o = true) ∧ .bool (rightB vs) = sh3 [] hp.sz v0 ∧ [] = outOf [] hp.sz st.hp := by
    rintro e st ⟨rfl, g, rfl⟩
    exact ⟨.inr rfl, rfl, _, q43 _ _ g, rfl, (fun b hb => by cases hb), rfl, rfl⟩
  rcases hT with ⟨rfl, rfl⟩ | ⟨b, c, o, rfl, hb, hi, hr⟩
  · refine ⟨[], [], [], rfl, rfl, rfl, rfl, (fun b hb => by cases hb), rfl, (by simp), fun W => ?_⟩
    have e1 : [nilS].map (sh3 [] 0) = [nilS] := by simp [sh3, sh2, sh1, nilS]
    rw [e1]
    exact FRwp.mono (right_nil W) fun e st q => fin q
  · refine ⟨[b], [], [], rfl, rfl, rfl, rfl, fun b' hb' => ?_, rfl, (by simp), fun W => ?_⟩
    · have : b' = b := by simpa using hb'
      subst this
      exact ⟨o, hb, inert_start hi⟩
    · have e1 : [rowS b vs.length c].map (sh3 [b] 0) = [rowS 0 vs.length c] := by simp [sh3, sh2, sh1, rho, idxOf, rowS]
      rw [e1, start1 hb hi]
      exact FRwp.mono (right_fr (roBlk o) (ro_inert hi) vs hn (ro_holds hr) c W) fun e st q => fin q
noncomputable def G43 : HeapFn := atP g43
theorem hkG43 : CallGoal Try.prog 43 G43 := atP_goal fun vs hn => hk43 vs hn
open Classical in
theorem G43_of {vs : List ViewV} {s : Value} {hp : Hp} (h : TQ vs s hp) (hn : vs.length < 1000000) : G43 [s] hp = some (.bool (rightB vs), heapOf [.dead] hp) := by
  unfold G43
  rw [atP_of h hn]
  show (if TQ vs s hp then _ else _) = _
  rw [if_pos h]; rfl
end Go.Proofs.Ytiogdklmhpllfaa.LtA
namespace Go.Proofs.Ytiogdklmhpllfaa.LtA
open Go Go.Proofs Go.Proofs.Ytiogdklmhpllfaa.AI Go.RowKit

/-! ### Own -/
noncomputable def fb34 : Code := (Try.f34.body).getD .skip
theorem body34 : Try.f34.body = some fb34 := by kernel_rfl
theorem ntmps34 : Try.f34.ntmps = 8 := by kernel_rfl
theorem s34 : codeSafe Try.prog 8 fb34 = true := by kernel_rfl
theorem q34 (v : Value) (O : List Blk) (g : Nat → Value) : retVal Try.prog Try.f34 (stOf 8 g [(2, v)] O) = some v := by kernel_rfl
section
variable (o : Blk) (s : Value) (vs : List ViewV) (n c : Nat)
theorem r34n : (execE Try.prog c0 [] [] [] 20 fb34 ⟨tmsOf [nilS] 0 .leaf, heapOf [.dead] hp0, []⟩).map (fun y => (look2 0 [] [2] (y.1, y.2.1), y.2.2)) = some ((.ret, [], [(2, nilS)], true), [], [], []) := by kernel_rfl
theorem r34a : (execE Try.prog c0 [] [] [(6, nilS, [])] 20 fb34 ⟨tmsOf [rowS 0 n c] 0 .leaf, heapOf [o, .dead] hp0, []⟩).map (fun y => (look2 0 [] [2] (y.1, y.2.1), y.2.2)) =
    some ((.ret, [], [(2, nilS)], true), [], [], [(aAppend Try.prog (heapOf [o, .dead] hp0).get 2 [29, 29] [nilS, rowS 0 n c], (nilS, []))]) := by kernel_rfl
theorem r34b : (execE Try.prog c0 [] [] [(6, newS 2 n, [.push (rowB vs)])] 20 fb34 ⟨tmsOf [rowS 0 n c] 0 .leaf, heapOf [o, .dead] hp0, []⟩).map (fun y => (look2 1 [2] [2] (y.1, y.2.1), y.2.2)) =
    some ((.ret, [rowB vs], [(2, newS 0 n)], true), [], [], [(aAppend Try.prog (heapOf [o, .dead] hp0).get 2 [29, 29] [nilS, rowS 0 n c], (newS 2 n, [.push (rowB vs)]))]) := by kernel_rfl
end
theorem app_zero {get : Nat → Option Blk} {sz b c : Nat} : aAppend Try.prog get sz [29, 29] [nilS, rowS b 0 c] = some (nilS, []) := by
  obtain ⟨i, hi, h7, h56⟩ := info34
  obtain ⟨z, hz, hzl⟩ := zero34
  have hsrc : aSrc Try.prog get 7 z (.slice 34) (rowS b 0 c) = some ([], 0) := rfl
  unfold aAppend
  simp only [Try.underlying29, hi, hz, h7, h56, hzl]
  rw [if_neg (by decide)]
  simp only [hsrc]
  rw [if_neg (by simp)]
  rfl
/-- A row appended to nil. -/
theorem app_nil {get : Nat → Option Blk} {sz b n c : Nat} {vs : List ViewV} {ty : TypeId} {ro : Bool} (hb : get b = some (.cells ty (vrow vs) ro)) (hn : n = vs.length) (h0 : 0 < n) (hl : n < 1000000) :
    aAppend Try.prog get sz [29, 29] [nilS, rowS b n c] = some (newS sz n, [.push (rowB vs)]) := by
  obtain ⟨i, hi, h7, h56⟩ := info34
  obtain ⟨z, hz, hzl⟩ := zero34
  have hsrc : aSrc Try.prog get 7 z (.slice 34) (rowS b n c) = some (vrow vs, n) := by
    unfold aSrc
    simp only [rowS, srcLen, srcCells, hb]
    rw [if_neg (by omega), if_neg (by omega), getR_all (n := n * 7) (by rw [vrow_len, hn])]
    rfl
  unfold aAppend
  simp only [Try.underlying29, hi, hz, h7, h56, hzl]
  rw [if_neg (by decide)]
  simp only [hsrc, vrow_one, vrow_len]
  rw [if_neg (by rw [hn]; simp)]
  simp only [nilS]
  rw [if_neg (by omega), if_neg (by omega)]
  rfl
/-- What a function ends with that answers a row: nil where it is empty. -/
def rowV (us : List ViewV) (b : Nat) : Value := match us with
  | [] => nilS
  | _ :: _ => newS b us.length
def rowO (us : List ViewV) : List Blk := match us with
  | [] => []
  | _ :: _ => [rowB us]
def EndsO (vs : List ViewV) (e : Exit) (st : St) : Prop := e = .ret ∧ ∃ g, st = stOf 8 g [(2, rowV vs 0)] (rowO vs)
theorem own_fr (o : Blk) (ho : inertB o = true) (vs : List ViewV) (hn : vs.length < 1000000) (hrow : vs = [] ∨ ∃ ty ro, o = .cells ty (vrow vs) ro) (c : Nat) (W : Base) :
    FRwp Try.prog 8 W fb34 ⟨tmsOf [rowS 0 vs.length c] 0 .leaf, heapOf [o, .dead] hp0, []⟩ (EndsO vs) := by
  cases vs with
  | nil => exact FRwp.pieceY c0_ok follows 0 _ _ _ _ (r34a o 0 c) Met.nil MetH.nil (MetE.cons app_zero MetE.nil) s34 rfl rfl (noFix _) fun g => ⟨rfl, g, rfl⟩
  | cons v vs =>
    rcases hrow with h | ⟨ty, ro, h⟩
    · cases h
    · exact FRwp.pieceY c0_ok follows 1 _ _ _ _ (r34b o (v :: vs) (v :: vs).length c) Met.nil MetH.nil (MetE.cons (app_nil (ty := ty) (ro := ro) (by rw [heapOf0_get, h]; rfl) rfl (by simp) hn) MetE.nil) s34 rfl rfl (fix1 _ []) fun g => ⟨rfl, g, rfl⟩
theorem own_nil (W : Base) : FRwp Try.prog 8 W fb34 ⟨tmsOf [nilS] 0 .leaf, heapOf [.dead] hp0, []⟩ (EndsO []) :=
  FRwp.pieceY c0_ok follows 0 _ _ _ _ r34n Met.nil MetH.nil MetE.nil s34 rfl rfl (noFix _) fun g => ⟨rfl, g, rfl⟩
open Classical in
noncomputable def g34 (vs : List ViewV) : HeapFn := fun args hp => match args with
  | [s] => if TN vs s hp then some (rowV vs hp.sz, heapOf (rowO vs ++ [.dead]) hp) else none
  | _ => none
theorem hk34 (vs : List ViewV) (hn : vs.length < 1000000) : CallGoal Try.prog 34 (g34 vs) := scan_goal follows Try.func34 body34 (by kernel_rfl) fun args hp v hp' h hk => by
  unfold g34 at h
  rw [ntmps34]
  split at h
  case h_2 => cases h
  rename_i s
  split at h
  case isFalse => cases h
  rename_i hT
  cases h
  have run : ∃ (K0 : List Nat), nodupB K0 = true ∧ (∀ b ∈ K0, ∃ o, hp.get b = some o ∧ startOk o = true) ∧ ([s]).all ok3 = true ∧ ∀ W, FRwp Try.prog 8 W fb34 ⟨tmsOf ([s].map (sh3 K0 0)) 0 .leaf, startHp K0 hp, []⟩ (EndsO vs) := by
    rcases hT with ⟨rfl, rfl⟩ | ⟨b, c, ob, rfl, hb, hi, hr⟩
    · refine ⟨[], rfl, (fun b hb => by cases hb), rfl, fun W => ?_⟩
      have e1 : [nilS].map (sh3 [] 0) = [nilS] := by simp [sh3, sh2, sh1, nilS]
      rw [e1]
      exact own_nil W
    · refine ⟨[b], rfl, fun b' hb' => ?_, rfl, fun W => ?_⟩
      · have : b' = b := by simpa using hb'
        subst this
        exact ⟨ob, hb, inert_start hi⟩
      · have e1 : [rowS b vs.length c].map (sh3 [b] 0) = [rowS 0 vs.length c] := by simp [sh3, sh2, sh1, rho, idxOf, rowS]
        rw [e1, start1 hb hi]
        exact own_fr (roBlk ob) (ro_inert hi) vs hn (ro_row hr) c W
  obtain ⟨K0, n0, hst, hall, hrun⟩ := run
  cases vs with
  | nil =>
    refine ⟨K0, [], [], rfl, rfl, n0, rfl, hst, hall, (by simp), fun W => FRwp.mono (hrun W) fun e st q => ?_⟩
    obtain ⟨rfl, g, rfl⟩ := q
    exact ⟨.inr rfl, rfl, _, q34 _ _ g, rfl, (fun b hb => by cases hb), by simp [sh3, sh2, sh1, rowV, nilS], rfl⟩
  | cons v vs =>
    refine ⟨K0, [0], [rowB (v :: vs)], rfl, rfl, n0, rfl, hst, hall, (by simp), fun W => FRwp.mono (hrun W) fun e st q => ?_⟩
    obtain ⟨rfl, g, rfl⟩ := q
    have hg := row_fin (N := 8) (us := v :: vs) (v := nilS) (t := 0) (L := [(2, rowV (v :: vs) 0)]) (g := g)
    refine ⟨.inr rfl, rfl, _, q34 _ _ g, rfl, fun b' hb' => ?_, by simp [sh3, sh2, sh1, rho, idxOf, rowV, newS, rowS], out_row hg⟩
    have : b' = 0 := by simpa using hb'
    subst this
    exact ⟨_, hg, ok2_inert (row_block _), rfl⟩
noncomputable def G34 : HeapFn := atRow (fun _ => True) g34
theorem hkG34 : CallGoal Try.prog 34 G34 := atRow_goal fun vs hn _ => hk34 vs hn
open Classical in
theorem G34_of {vs : List ViewV} {s : Value} {hp : Hp} (h : TN vs s hp) (hn : vs.length < 1000000) : G34 [s] hp = some (rowV vs hp.sz, heapOf (rowO vs ++ [.dead]) hp) := by
  unfold G34
  rw [atRow_of h hn trivial]
  show (if TN vs s hp then _ else _) = _
  rw [if_pos h]

/-! ### Get -/
noncomputable def fb39 : Code := (Try.f39.body).getD .skip
noncomputable def c39a : Code := sL fb39
noncomputable def c39b : Code := sL (sL (sR fb39))
noncomputable def c39c : Code := unL (unB (sR (sL (sR fb39))))
noncomputable def c39d : Code := sR (sR fb39)
noncomputable abbrev code39 : Code := .seq c39a (.seq (.seq c39b (.block 0 (.loop c39c))) c39d)
theorem body39 : Try.f39.body = some code39 := by kernel_rfl
theorem ntmps39 : Try.f39.ntmps = 26 := by kernel_rfl
theorem s39a : codeSafe Try.prog 26 c39a = true := by kernel_rfl
theorem s39b : codeSafe Try.prog 26 c39b = true := by kernel_rfl
theorem s39c : codeSafe Try.prog 26 c39c = true := by kernel_rfl
theorem s39d : codeSafe Try.prog 26 c39d = true := by kernel_rfl
theorem s39 : codeSafe Try.prog 26 code39 = true := by kernel_rfl
theorem q39 (x : ViewV) (b : Bool) (g : Nat → Value) : retVal Try.prog Try.f39 (stOf 26 g [(4, pb 0 0), (5, .bool b)] [hB x]) = some (.tuple #[hcA x, .bool b]) := by kernel_rfl
section
variable (o : Blk) (n c : Nat) (id : Int)
abbrev B39 : St := ⟨tmsOf [rowS 0 n c, .int .i64 id] 0 .leaf, heapOf [o, .dead] hp0, []⟩
abbrev A39 (g : Nat → Value) : St := stOf 26 g [(0, rowS 0 n c), (1, .int .i64 id), (4, pb 1 0)] [o, hB (zeroV 0)]
abbrev L39 (i : Nat) (g : Nat → Value) : St := stOf 26 g [(0, rowS 0 n c), (1, .int .i64 id), (4, pb 1 0), (6, iN i)] [o, hB (zeroV 0)]
abbrev X39 (g : Nat → Value) : St := stOf 26 g [(4, pb 0 0)] [hB (zeroV 0)]
theorem r39a : (execE Try.prog c0 [] [] [] 10 c39a (B39 o n c id)).map (fun y => (look2 1 [0, 2] [0, 1, 4] (y.1, y.2.1), y.2.2)) = some ((.normal, [o, hB (zeroV 0)], [(0, rowS 0 n c), (1, .int .i64 id), (4, pb 1 0)], true), [], [], []) := by kernel_rfl
theorem r39b (g : Nat → Value) : (execE Try.prog c0 [] [] [] 10 c39b (A39 o n c id g)).map (fun y => (look2 1 [0, 1] [0, 1, 4, 6] (y.1, y.2.1), y.2.2)) = some ((.normal, [o, hB (zeroV 0)], [(0, rowS 0 n c), (1, .int .i64 id), (4, pb 1 0), (6, iN 0)], true), [], [], []) := by kernel_rfl
theorem r39x (i : Nat) (g : Nat → Value) : (execE Try.prog c0 [(10, .bool false)] [] [] 20 c39c (L39 o n c id i g)).map (fun y => (look2 0 [1] [4] (y.1, y.2.1), y.2.2)) =
    some ((.exit 0, [hB (zeroV 0)], [(4, pb 0 0)], true), [(some (.bool (decide (Int.ofNat i < Int.ofNat n))), .bool false)], [], []) := by kernel_rfl
noncomputable def owe39 (i : Nat) (x : ViewV) : List Obl :=
  [(some (.bool (decide (Int.ofNat i < Int.ofNat n))), .bool true), ixO 0 n c i, ldO (heapOf ([o, hB (zeroV 0)] ++ [.dead]) hp0).get 3 0 (i * 7) (.int .i64 x.id)]
def see39 (i : Nat) (x : ViewV) : List (Tmp × Value) := [(10, .bool true), (15, pb 0 (i * 7)), (17, .int .i64 x.id)]
theorem r39f (i : Nat) (x : ViewV) (g : Nat → Value) : (execE Try.prog c0 (see39 i x ++ [(19, .bool false), (12, iN (i + 1))]) [] [] 20 c39c (L39 o n c id i g)).map (fun y => (look2 1 [0, 1] [0, 1, 4, 6] (y.1, y.2.1), y.2.2)) =
    some ((.normal, [o, hB (zeroV 0)], [(0, rowS 0 n c), (1, .int .i64 id), (4, pb 1 0), (6, iN (i + 1))], true), owe39 o n c i x ++ [(some (.bool (x.id == id)), .bool false), nxt29 i], [], []) := by kernel_rfl
theorem r39g (i : Nat) (x : ViewV) (g : Nat → Value) : (execE Try.prog c0 (see39 i x ++ [(19, .bool true), (22, pb 0 (i * 7)), (24, hcA x)]) [] [] 20 c39c (L39 o n c id i g)).map (fun y => (look2 0 [1] [4, 5] (y.1, y.2.1), y.2.2)) =
    some ((.ret, [hB x], [(4, pb 0 0), (5, .bool true)], true), owe39 o n c i x ++ [(some (.bool (x.id == id)), .bool true), ixO 0 n c i, ldO (heapOf ([o, hB (zeroV 0)] ++ [.dead]) hp0).get 23 0 (i * 7 + 1) (hcA x)], [], []) := by kernel_rfl
theorem r39d (g : Nat → Value) : (execE Try.prog c0 [] [] [] 20 c39d (X39 g)).map (fun y => (look2 0 [0] [4, 5] (y.1, y.2.1), y.2.2)) =
    some ((.ret, [hB (zeroV 0)], [(4, pb 0 0), (5, .bool false)], true), [], [], []) := by kernel_rfl
theorem r39n : (execQ Try.prog c0 [] 40 code39 ⟨tmsOf [nilS, .int .i64 id] 0 .leaf, heapOf [.dead] hp0, []⟩).map (fun y => (look2 0 [1] [4, 5] (y.1, y.2.1), y.2.2)) =
    some ((.ret, [hB (zeroV 0)], [(4, pb 0 0), (5, .bool false)], true), []) := by kernel_rfl
end
def EndsH (vs : List ViewV) (id : Int) (e : Exit) (st : St) : Prop := e = .ret ∧ ∃ g, st = stOf 26 g [(4, pb 0 0), (5, .bool (findV vs id).isSome)] [hB ((findV vs id).getD (zeroV 0))]
theorem rget_fr (o : Blk) (ho : inertB o = true) (vs : List ViewV) (hn : vs.length < 1000000) (hrow : Holds vs o) (c : Nat) (id : Int) (W : Base) :
    FRwp Try.prog 26 W code39 (B39 o vs.length c id) (EndsH vs id) := by
  refine FRwp.seq (Q1 := fun x st => x = .normal ∧ ∃ g, st = A39 o vs.length c id g) (FRwp.pieceY c0_ok follows 1 _ _ _ _ (r39a o vs.length c id) Met.nil MetH.nil MetE.nil s39a rfl rfl (fix11 ho _) fun g => ⟨rfl, g, rfl⟩) ?_ (fun x st hne hq => absurd hq.1 hne)
  rintro st ⟨-, g, rfl⟩
  let Q2 : Exit → St → Prop := fun x st => (x = .normal ∧ findV vs id = none ∧ ∃ g, st = X39 g) ∨ (x = .ret ∧ EndsH vs id x st)
  refine FRwp.seq (Q1 := Q2) ?_ ?_ ?_
  · refine FRwp.seq (Q1 := fun x st => x = .normal ∧ ∃ g, st = L39 o vs.length c id 0 g) (FRwp.pieceY c0_ok follows 1 _ _ _ _ (r39b o vs.length c id g) Met.nil MetH.nil MetE.nil s39b rfl rfl (fix11 ho _) fun g => ⟨rfl, g, rfl⟩) ?_ (fun x st hne hq => absurd hq.1 hne)
    rintro st ⟨-, g, rfl⟩
    refine FRwp.block ?_
    refine FRwp.loop (fun k st => ∃ i g, i ≤ vs.length ∧ k = vs.length - i ∧ (∀ j y, j < i → vs[j]? = some y → isId id y = false) ∧ st = L39 o vs.length c id i g) ?_ (k := vs.length) ⟨0, g, Nat.zero_le _, rfl, fun j y hj => absurd hj (Nat.not_lt_zero _), rfl⟩
    rintro k st ⟨i, g, hi, hk, hno, rfl⟩
    cases h11 : decide (Int.ofNat i < Int.ofNat vs.length) with
    | false =>
      refine FRwp.pieceY c0_ok follows 0 _ _ _ _ (r39x o vs.length c id i g) (Met.cons (met_bool h11) Met.nil) MetH.nil MetE.nil s39c rfl rfl (noFix _) fun g' => .inr ⟨by simp, ?_⟩
      show (if (0 : Nat) = 0 then Q2 .normal _ else Q2 (.exit 0) _)
      rw [if_pos rfl]
      have hii : i = vs.length := by simp at h11; omega
      subst hii
      exact .inl ⟨rfl, find_no hno, g', rfl⟩
    | true =>
      have hlt : i < vs.length := by simpa using h11
      obtain ⟨x, hx⟩ : ∃ x, vs[i]? = some x := ⟨_, List.getElem?_eq_getElem hlt⟩
      have hat : RowAt (heapOf ([o, hB (zeroV 0)] ++ [.dead]) hp0) 0 vs := rowAt0' (row_of_mem hrow (List.mem_of_getElem? hx))
      have hmet : Met (owe39 o vs.length c i x) := Met.cons (met_bool h11) (Met.cons (vidx_ok hlt) (Met.cons (vcell_ok hat hx) Met.nil))
      cases h17 : isId id x with
      | false =>
        refine FRwp.pieceY c0_ok follows 1 _ _ _ _ (r39f o vs.length c id i x g) (met_app hmet (Met.cons (met_bool h17) (Met.cons (wrap_up (by omega)) Met.nil))) MetH.nil MetE.nil s39c rfl rfl (fix11 ho _) fun g' => .inl ⟨rfl, vs.length - (i + 1), by omega, i + 1, g', by omega, rfl, fun j y hj hy => ?_, rfl⟩
        rcases Nat.lt_succ_iff_lt_or_eq.1 hj with h' | h'
        · exact hno j y h' hy
        · subst h'; rw [hx] at hy; cases hy; exact h17
      | true =>
        refine FRwp.pieceY c0_ok follows 0 _ _ _ _ (r39g o vs.length c id i x g) (met_app hmet (Met.cons (met_bool h17) (Met.cons (vidx_ok hlt) (Met.cons (hload_ok hat hx) Met.nil)))) MetH.nil MetE.nil s39c rfl rfl (noFix _) fun g' => .inr ⟨by simp, .inr ⟨rfl, rfl, g', ?_⟩⟩
        have hf : findV vs id = some x := find_at hx h17 hno
        rw [hf]; rfl
  · rintro st (⟨-, hf, g, rfl⟩ | ⟨h, -⟩)
    · refine FRwp.pieceY c0_ok follows 0 _ _ _ _ (r39d g) Met.nil MetH.nil MetE.nil s39d rfl rfl (noFix _) fun g' => ⟨rfl, g', ?_⟩
      rw [hf]; rfl
    · cases h
  · rintro x st hne (⟨h, -⟩ | ⟨-, h⟩)
    · exact absurd h hne
    · exact h
theorem rget_nil (id : Int) (W : Base) : FRwp Try.prog 26 W code39 ⟨tmsOf [nilS, .int .i64 id] 0 .leaf, heapOf [.dead] hp0, []⟩ (EndsH [] id) :=
  FRwp.piece c0_ok follows 0 _ _ _ _ (r39n id) Met.nil s39 rfl rfl rfl (noFix _) fun g => ⟨rfl, g, rfl⟩
theorem hk39 (vs : List ViewV) (hn : vs.length < 1000000) : CallGoal Try.prog 39 (g33 vs) := scan_goal follows Try.func39 body39 (by kernel_rfl) fun args hp v hp' h hk => by
  unfold g33 at h
  rw [ntmps39]
  split at h
  case h_2 => cases h
  rename_i s id
  split at h
  case isFalse => cases h
  rename_i hT
  cases h
  have fin : ∀ {e : Exit} {st : St}, EndsH vs id e st → (e = .normal ∨ e = .ret) ∧ st.df = [] ∧ ∃ v0, retVal Try.prog Try.f39 st = some v0 ∧ ok3 v0 = true ∧
      (∀ b ∈ ([] : List Nat), ∃ o, st.hp.get b = some o ∧ okBlk o = true ∧ rwB o = true) ∧ getV vs id = sh3 [] hp.sz v0 ∧ [] = outOf [] hp.sz st.hp := by
    rintro e st ⟨rfl, g, rfl⟩
    exact ⟨.inr rfl, rfl, _, q39 _ _ g, rfl, (fun b hb => by cases hb), by simp [sh3, sh2, sh1, getV, hcA], rfl⟩
  rcases hT with ⟨rfl, rfl⟩ | ⟨b, c, o, rfl, hb, hi, hr⟩
  · refine ⟨[], [], [], rfl, rfl, rfl, rfl, (fun b hb => by cases hb), rfl, (by simp), fun W => ?_⟩
    have e1 : [nilS, .int .i64 id].map (sh3 [] 0) = [nilS, .int .i64 id] := by simp [sh3, sh2, sh1, nilS]
    rw [e1]
    exact FRwp.mono (rget_nil id W) fun e st q => fin q
  · refine ⟨[b], [], [], rfl, rfl, rfl, rfl, fun b' hb' => ?_, rfl, (by simp), fun W => ?_⟩
    · have : b' = b := by simpa using hb'
      subst this
      exact ⟨o, hb, inert_start hi⟩
    · have e1 : [rowS b vs.length c, .int .i64 id].map (sh3 [b] 0) = [rowS 0 vs.length c, .int .i64 id] := by simp [sh3, sh2, sh1, rho, idxOf, rowS]
      rw [e1, start1 hb hi]
      exact FRwp.mono (rget_fr (roBlk o) (ro_inert hi) vs hn (ro_holds hr) c id W) fun e st q => fin q
theorem hkG39 : CallGoal Try.prog 39 G33 := atP_goal fun vs hn => hk39 vs hn

/-! ### Same, of a row and itself -/
theorem s28 : codeSafe Try.prog 26 code28 = true := by kernel_rfl
theorem q28' (v : Value) (O : List Blk) (g : Nat → Value) : retVal Try.prog Try.f28 (stOf 26 g [(4, v)] O) = some v := by kernel_rfl
theorem n28a : (execQ Try.prog cE [] 40 code28 ⟨tmsOf [nilS, nilS] 0 .leaf, heapOf [.dead] hp0, []⟩).map (fun y => (look2 0 [] [4] (y.1, y.2.1), y.2.2)) = some ((.ret, [], [(4, .bool true)], true), []) := by kernel_rfl
theorem n28b (o : Blk) (c : Nat) : (execQ Try.prog cE [] 40 code28 ⟨tmsOf [rowS 0 0 c, nilS] 0 .leaf, heapOf [o, .dead] hp0, []⟩).map (fun y => (look2 0 [] [4] (y.1, y.2.1), y.2.2)) = some ((.ret, [], [(4, .bool true)], true), []) := by kernel_rfl
theorem n28c (o : Blk) (c : Nat) : (execQ Try.prog cE [] 40 code28 ⟨tmsOf [nilS, rowS 0 0 c] 0 .leaf, heapOf [o, .dead] hp0, []⟩).map (fun y => (look2 0 [] [4] (y.1, y.2.1), y.2.2)) = some ((.ret, [], [(4, .bool true)], true), []) := by kernel_rfl
/-- Two rows that are alike, in two blocks, or nil. -/
def SM (us : List ViewV) (s t : Value) (hp : Hp) : Prop :=
  (s = nilS ∧ t = nilS ∧ us = []) ∨ (TR us s hp ∧ t = nilS ∧ us = []) ∨ (s = nilS ∧ TR us t hp ∧ us = []) ∨
    ∃ b1 c1 o1 b2 c2 o2, s = rowS b1 us.length c1 ∧ t = rowS b2 us.length c2 ∧ b1 ≠ b2 ∧ hp.get b1 = some o1 ∧ hp.get b2 = some o2 ∧ inertB o1 = true ∧ inertB o2 = true ∧ (us = [] ∨ ∃ ty ro, o1 = .cells ty (vrow us) ro) ∧ (us = [] ∨ ∃ ty ro, o2 = .cells ty (vrow us) ro)
open Classical in
noncomputable def gSM : HeapFn := fun args hp => match args with
  | [s, t] => if ∃ us, us.length < 1000000 ∧ SM us s t hp then some (.bool true, heapOf ([] ++ [.dead]) hp) else none
  | _ => none
theorem hkSM : CallGoal Try.prog 28 gSM := scan_goal follows Try.func28 body28 (by kernel_rfl) fun args hp v hp' h hk => by
  unfold gSM at h
  rw [ntmps28]
  split at h
  case h_2 => cases h
  rename_i s t
  split at h
  case isFalse => cases h
  rename_i hT
  obtain ⟨us, hn, hT⟩ := hT
  cases h
  have fin : ∀ {e : Exit} {st : St}, (e = .ret ∧ ∃ g, st = stOf 26 g [(4, .bool true)] []) → (e = .normal ∨ e = .ret) ∧ st.df = [] ∧ ∃ v0, retVal Try.prog Try.f28 st = some v0 ∧ ok3 v0 = true ∧
      (∀ b ∈ ([] : List Nat), ∃ o, st.hp.get b = some o ∧ okBlk o = true ∧ rwB o = true) ∧ .bool true = sh3 [] hp.sz v0 ∧ [] = outOf [] hp.sz st.hp := by
    rintro e st ⟨rfl, g, rfl⟩
    exact ⟨.inr rfl, rfl, _, q28' _ _ g, rfl, (fun b hb => by cases hb), rfl, rfl⟩
  rcases hT with ⟨rfl, rfl, rfl⟩ | ⟨⟨b, c, o, rfl, hb, hi, hr⟩, rfl, rfl⟩ | ⟨rfl, ⟨b, c, o, rfl, hb, hi, hr⟩, rfl⟩ | ⟨b1, c1, o1, b2, c2, o2, rfl, rfl, hne, h1, h2, i1, i2, r1, r2⟩
  · refine ⟨[], [], [], rfl, rfl, rfl, rfl, (fun b hb => by cases hb), rfl, (by simp), fun W => ?_⟩
    have e1 : [nilS, nilS].map (sh3 [] 0) = [nilS, nilS] := by simp [sh3, sh2, sh1, nilS]
    rw [e1]
    exact FRwp.piece cE_ok follows 0 _ _ _ _ n28a Met.nil s28 rfl rfl rfl (noFix _) fun g => fin ⟨rfl, g, rfl⟩
  · refine ⟨[b], [], [], rfl, rfl, rfl, rfl, fun b' hb' => ?_, rfl, (by simp), fun W => ?_⟩
    · have : b' = b := by simpa using hb'
      subst this
      exact ⟨o, hb, inert_start hi⟩
    · have e1 : [rowS b ([] : List ViewV).length c, nilS].map (sh3 [b] 0) = [rowS 0 0 c, nilS] := by simp [sh3, sh2, sh1, rho, idxOf, rowS, nilS]
      rw [e1, start1 hb hi]
      exact FRwp.piece cE_ok follows 0 _ _ _ _ (n28b (roBlk o) c) Met.nil s28 rfl rfl rfl (noFix _) fun g => fin ⟨rfl, g, rfl⟩
  · refine ⟨[b], [], [], rfl, rfl, rfl, rfl, fun b' hb' => ?_, rfl, (by simp), fun W => ?_⟩
    · have : b' = b := by simpa using hb'
      subst this
      exact ⟨o, hb, inert_start hi⟩
    · have e1 : [nilS, rowS b ([] : List ViewV).length c].map (sh3 [b] 0) = [nilS, rowS 0 0 c] := by simp [sh3, sh2, sh1, rho, idxOf, rowS, nilS]
      rw [e1, start1 hb hi]
      exact FRwp.piece cE_ok follows 0 _ _ _ _ (n28c (roBlk o) c) Met.nil s28 rfl rfl rfl (noFix _) fun g => fin ⟨rfl, g, rfl⟩
  · have hbe : Nat.beq b1 b2 = false := by
      cases e : Nat.beq b1 b2 with
      | false => rfl
      | true => exact absurd (Nat.eq_of_beq_eq_true e) hne
    refine ⟨[b1, b2], [], [], rfl, rfl, ?_, rfl, fun b' hb' => ?_, rfl, (by simp), fun W => ?_⟩
    · simp [nodupB, hbe]
    · have : b' = b1 ∨ b' = b2 := by simpa using hb'
      rcases this with rfl | rfl
      · exact ⟨o1, h1, inert_start i1⟩
      · exact ⟨o2, h2, inert_start i2⟩
    · have e1 : [rowS b1 us.length c1, rowS b2 us.length c2].map (sh3 [b1, b2] 0) = [rowS 0 us.length c1, rowS 1 us.length c2] := by
        simp [sh3, sh2, sh1, rho, idxOf, rowS, hbe]
      rw [e1, start2 h1 h2 i1 i2]
      refine FRwp.mono (same_fr (roBlk o1) (roBlk o2) (ro_inert i1) (ro_inert i2) us us hn (.of (ro_row r1)) (.of (ro_row r2)) c1 c2 W) fun e st q => ⟨q.1, q.2.1, _, q.2.2, rfl, (fun b hb => by cases hb), ?_, rfl⟩
      rw [sameRow_refl]; rfl
open Classical in
theorem gSM_of {us : List ViewV} {s t : Value} {hp : Hp} (h : SM us s t hp) (hn : us.length < 1000000) : gSM [s, t] hp = some (.bool true, heapOf [.dead] hp) := by
  unfold gSM
  simp only
  rw [if_pos ⟨us, hn, h⟩]
  rfl
end Go.Proofs.Ytiogdklmhpllfaa.LtA
namespace Go.Proofs.Ytiogdklmhpllfaa.LtA
open Go Go.Proofs Go.Proofs.Ytiogdklmhpllfaa.AI Go.RowKit

theorem app_one {get : Nat → Option Blk} {sz b b2 k : Nat} {ws : List ViewV} {x : ViewV} (hb : get b = some (rowB ws)) (hb2 : get b2 = some (.cells 34 (vc x) false)) (hk : k = ws.length) (hl : k < 2000000) :
    aAppend Try.prog get sz [29, 29] [newS b k, rowS b2 1 22] = some (newS sz (k + 1), [.put b .dead, .push (rowB (ws ++ [x]))]) := by
  subst hk
  obtain ⟨i, hi, h7, h56⟩ := info34
  obtain ⟨z, hz, hzl⟩ := zero34
  unfold rowB at hb
  have hsrc : aSrc Try.prog get 7 z (.slice 34) (rowS b2 1 22) = some (vc x, 1) := by
    unfold aSrc
    simp only [rowS, srcLen, srcCells, hb2]
    rw [if_neg (by omega), if_neg (by omega), getR_all (n := 1 * 7) rfl]
    rfl
  have hg : getR (vrow ws) 0 (ws.length * 7) = some (vrow ws) := getR_all (vrow_len ws)
  unfold aAppend
  simp only [Try.underlying29, hi, hz, h7, h56, hzl]
  rw [if_neg (by decide)]
  simp only [hsrc]
  rw [if_neg (by simp [vc, isOne])]
  simp only [newS, rowS]
  rw [if_neg (by omega), if_neg (by omega)]
  simp only [hb, hg]
  rw [if_neg (by omega), if_pos (by decide), if_neg (by rw [vrow_len]; omega)]
  unfold rowB
  rw [vrow_append]
  have e : vrow [x] = vc x := by unfold vrow; simp
  rw [e]
noncomputable def E40 : Ext := extG (extH Try.prog []) [(43, G43)]
theorem E40_ok : ExtOk Try.prog E40 := extG_ok (extH_ok .nil) (.cons hkG43 .nil)
noncomputable def c40 : CallF := aCall Try.prog E40 5
theorem c40_ok : CallOk Try.prog c40 := aCall_sound E40_ok follows 5
noncomputable def fb40 : Code := (Try.f40.body).getD .skip
noncomputable def c40a : Code := sL fb40
noncomputable def c40b : Code := sL (sR fb40)
noncomputable def c40c : Code := sL (sR (sR fb40))
noncomputable def c40d : Code := sL (sL (sR (sR (sR fb40))))
noncomputable def c40e : Code := unL (unB (sR (sL (sR (sR (sR fb40))))))
noncomputable def c40f : Code := sL (sR (sR (sR (sR fb40))))
noncomputable def c40g : Code := sR (sR (sR (sR (sR fb40))))
noncomputable abbrev code40 : Code := .seq c40a (.seq c40b (.seq c40c (.seq (.seq c40d (.block 0 (.loop c40e))) (.seq c40f c40g))))
theorem body40 : Try.f40.body = some code40 := by kernel_rfl
theorem ntmps40 : Try.f40.ntmps = 65 := by kernel_rfl
theorem s40a : codeSafe Try.prog 65 c40a = true := by kernel_rfl
theorem s40b : codeSafe Try.prog 65 c40b = true := by kernel_rfl
theorem s40c : codeSafe Try.prog 65 c40c = true := by kernel_rfl
theorem s40d : codeSafe Try.prog 65 c40d = true := by kernel_rfl
theorem s40e : codeSafe Try.prog 65 c40e = true := by kernel_rfl
theorem s40f : codeSafe Try.prog 65 c40f = true := by kernel_rfl
theorem s40g : codeSafe Try.prog 65 c40g = true := by kernel_rfl
theorem q40 (v u : Value) (O : List Blk) (g : Nat → Value) : retVal Try.prog Try.f40 (stOf 65 g [(6, v), (7, u)] O) = some (.tuple #[v, u]) := by kernel_rfl
section
variable (o : Blk) (s : Value) (n c : Nat) (y : ViewV) (ws us zs : List ViewV) (k : Nat) (i : Nat) (x : ViewV) (g : Nat → Value)
abbrev B40 : St := ⟨tmsOf [s, .int .i64 y.id, hcA y] 0 .leaf, heapOf [o, .dead] hp0, []⟩
abbrev A40 (g : Nat → Value) : St := stOf 65 g [(0, s), (1, .int .i64 y.id), (5, pb 1 0)] [o, hB y]
abbrev A40' (g : Nat → Value) : St := stOf 65 g [(0, s), (1, .int .i64 y.id), (5, pb 1 0), (8, nilS)] [o, hB y]
abbrev N40' (g : Nat → Value) : St := stOf 65 g [(0, s), (1, .int .i64 y.id), (5, pb 1 0), (8, nilS), (9, .bool false)] [o, hB y]
abbrev N40 (i : Nat) (g : Nat → Value) : St := stOf 65 g [(0, s), (1, .int .i64 y.id), (5, pb 1 0), (8, nilS), (9, .bool false), (10, iN i)] [o, hB y]
abbrev R40' (k : Nat) (d : Bool) (g : Nat → Value) : St := stOf 65 g [(0, s), (1, .int .i64 y.id), (5, pb 2 0), (8, newS 1 k), (9, .bool d)] [o, rowB ws, hB y]
abbrev R40 (k : Nat) (d : Bool) (i : Nat) (g : Nat → Value) : St := stOf 65 g [(0, s), (1, .int .i64 y.id), (5, pb 2 0), (8, newS 1 k), (9, .bool d), (10, iN i)] [o, rowB ws, hB y]
theorem r40a : (execE Try.prog c40 [] [] [] 10 c40a (B40 o (rowS 0 n c) y)).map (fun z => (look2 1 [0, 2] [0, 1, 5] (z.1, z.2.1), z.2.2)) = some ((.normal, [o, hB y], [(0, rowS 0 n c), (1, .int .i64 y.id), (5, pb 1 0)], true), [], [], []) := by kernel_rfl
theorem r40an : (execE Try.prog c40 [] [] [] 10 c40a (B40 o nilS y)).map (fun z => (look2 1 [0, 2] [0, 1, 5] (z.1, z.2.1), z.2.2)) = some ((.normal, [o, hB y], [(0, nilS), (1, .int .i64 y.id), (5, pb 1 0)], true), [], [], []) := by kernel_rfl
theorem r40b : (execE Try.prog c40 [] [] [] 10 c40b (A40 o (rowS 0 n c) y g)).map (fun z => (look2 1 [0, 1] [0, 1, 5, 8] (z.1, z.2.1), z.2.2)) = some ((.normal, [o, hB y], [(0, rowS 0 n c), (1, .int .i64 y.id), (5, pb 1 0), (8, nilS)], true), [], [], []) := by kernel_rfl
theorem r40bn : (execE Try.prog c40 [] [] [] 10 c40b (A40 o nilS y g)).map (fun z => (look2 1 [0, 1] [0, 1, 5, 8] (z.1, z.2.1), z.2.2)) = some ((.normal, [o, hB y], [(0, nilS), (1, .int .i64 y.id), (5, pb 1 0), (8, nilS)], true), [], [], []) := by kernel_rfl
theorem r40c : (execE Try.prog c40 [] [] [] 10 c40c (A40' o (rowS 0 n c) y g)).map (fun z => (look2 1 [0, 1] [0, 1, 5, 8, 9] (z.1, z.2.1), z.2.2)) = some ((.normal, [o, hB y], [(0, rowS 0 n c), (1, .int .i64 y.id), (5, pb 1 0), (8, nilS), (9, .bool false)], true), [], [], []) := by kernel_rfl
theorem r40cn : (execE Try.prog c40 [] [] [] 10 c40c (A40' o nilS y g)).map (fun z => (look2 1 [0, 1] [0, 1, 5, 8, 9] (z.1, z.2.1), z.2.2)) = some ((.normal, [o, hB y], [(0, nilS), (1, .int .i64 y.id), (5, pb 1 0), (8, nilS), (9, .bool false)], true), [], [], []) := by kernel_rfl
theorem r40d : (execE Try.prog c40 [] [] [] 10 c40d (N40' o (rowS 0 n c) y g)).map (fun z => (look2 1 [0, 1] [0, 1, 5, 8, 9, 10] (z.1, z.2.1), z.2.2)) = some ((.normal, [o, hB y], [(0, rowS 0 n c), (1, .int .i64 y.id), (5, pb 1 0), (8, nilS), (9, .bool false), (10, iN 0)], true), [], [], []) := by kernel_rfl
theorem r40dn : (execE Try.prog c40 [] [] [] 10 c40d (N40' o nilS y g)).map (fun z => (look2 1 [0, 1] [0, 1, 5, 8, 9, 10] (z.1, z.2.1), z.2.2)) = some ((.normal, [o, hB y], [(0, nilS), (1, .int .i64 y.id), (5, pb 1 0), (8, nilS), (9, .bool false), (10, iN 0)], true), [], [], []) := by kernel_rfl
end
section
variable (o : Blk) (n c : Nat) (y : ViewV) (ws us zs : List ViewV) (k : Nat) (i : Nat) (x : ViewV) (g : Nat → Value)
abbrev sL0 (n c : Nat) : Value := rowS 0 n c
theorem n40x : (execE Try.prog c40 [(14, .bool false)] [] [] 20 c40e (N40 o (rowS 0 n c) y i g)).map (fun z => (look2 1 [0, 1] [0, 1, 5, 8, 9] (z.1, z.2.1), z.2.2)) =
    some ((.exit 0, [o, hB y], [(0, rowS 0 n c), (1, .int .i64 y.id), (5, pb 1 0), (8, nilS), (9, .bool false)], true), [(some (.bool (decide (Int.ofNat i < Int.ofNat n))), .bool false)], [], []) := by kernel_rfl
theorem n40y : (execE Try.prog c40 [] [] [] 20 c40e (N40 o nilS y 0 g)).map (fun z => (look2 1 [0, 1] [0, 1, 5, 8, 9] (z.1, z.2.1), z.2.2)) =
    some ((.exit 0, [o, hB y], [(0, nilS), (1, .int .i64 y.id), (5, pb 1 0), (8, nilS), (9, .bool false)], true), [], [], []) := by kernel_rfl
theorem r40x (d : Bool) : (execE Try.prog c40 [(14, .bool false)] [] [] 20 c40e (R40 o (rowS 0 n c) y ws k d i g)).map (fun z => (look2 2 [0, 1, 2] [0, 1, 5, 8, 9] (z.1, z.2.1), z.2.2)) =
    some ((.exit 0, [o, rowB ws, hB y], [(0, rowS 0 n c), (1, .int .i64 y.id), (5, pb 2 0), (8, newS 1 k), (9, .bool d)], true), [(some (.bool (decide (Int.ofNat i < Int.ofNat n))), .bool false)], [], []) := by kernel_rfl
def hN (o : Blk) (y : ViewV) : Hp := heapOf ([o, hB y] ++ [.dead]) hp0
def vB (x : ViewV) : Blk := .cells 34 (vc x) false
def hN1 (o : Blk) (y : ViewV) : Hp := ((hN o y).push (vB y)).push (rowB [y])
def hR (o : Blk) (ws : List ViewV) (y : ViewV) : Hp := heapOf ([o, rowB ws, hB y] ++ [.dead]) hp0
noncomputable def hR1 (o : Blk) (ws us : List ViewV) (y : ViewV) : Hp := (((hR o ws y).push (vB y)).put 1 .dead).push (rowB us)
noncomputable def lt40 (b : Bool) : Obl := (some (.bool (decide (Int.ofNat i < Int.ofNat n))), .bool b)
/-- What is owed for the first test, for the second, for what is appended. -/
noncomputable def t1o (h : Hp) (b : Bool) : List Obl := [ixO 0 n c i, ldO h.get 3 0 (i * 7) (.int .i64 x.id), (some (.bool (decide (x.id ≥ y.id))), .bool b)]
noncomputable def t2o (h : Hp) (b : Bool) : List Obl := [ixO 0 n c i, ldO h.get 3 0 (i * 7) (.int .i64 x.id), (some (.bool (x.id != y.id)), .bool b)]
noncomputable def t3o (h : Hp) : List Obl := [ixO 0 n c i, ldO h.get 34 0 (i * 7) (.agg ⟨vc x⟩)]
def t1c (b : Bool) : List (Tmp × Value) := [(22, pb 0 (i * 7)), (24, .int .i64 x.id), (26, .bool b)]
def t2c (b : Bool) : List (Tmp × Value) := [(36, pb 0 (i * 7)), (38, .int .i64 x.id), (40, .bool b)]
def t3c : List (Tmp × Value) := [(44, pb 0 (i * 7)), (45, .agg ⟨vc x⟩)]
theorem n40A : (execE Try.prog c40 ([(14, .bool true)] ++ t1c i x false ++ t2c i x true ++ t3c i x ++ [(16, iN (i + 1))]) [] [] 20 c40e (N40 o (rowS 0 n c) y i g)).map (fun z => (look2 2 [0, 4, 1] [0, 1, 5, 8, 9, 10] (z.1, z.2.1), z.2.2)) =
    some ((.normal, [o, rowB [x], hB y], [(0, rowS 0 n c), (1, .int .i64 y.id), (5, pb 2 0), (8, newS 1 1), (9, .bool false), (10, iN (i + 1))], true),
      [lt40 n i true] ++ (t1o n c y i x (hN o y) false ++ (t2o n c y i x (hN o y) true ++ (t3o n c i x (hN o y) ++ [nxt29 i]))), [], []) := by kernel_rfl
theorem n40B : (execE Try.prog c40 ([(14, .bool true)] ++ t1c i x true ++ t2c i x true ++ t3c i x ++ [(16, iN (i + 1))]) [] [] 20 c40e (N40 o (rowS 0 n c) y i g)).map (fun z => (look2 2 [0, 6, 1] [0, 1, 5, 8, 9, 10] (z.1, z.2.1), z.2.2)) =
    some ((.normal, [o, rowB [y, x], hB y], [(0, rowS 0 n c), (1, .int .i64 y.id), (5, pb 2 0), (8, newS 1 2), (9, .bool true), (10, iN (i + 1))], true),
      [lt40 n i true] ++ (t1o n c y i x (hN o y) true ++ (t2o n c y i x (hN1 o y) true ++ (t3o n c i x (hN1 o y) ++ [nxt29 i]))), [], []) := by kernel_rfl
theorem n40C : (execE Try.prog c40 ([(14, .bool true)] ++ t1c i x true ++ t2c i x false ++ [(16, iN (i + 1))]) [] [] 20 c40e (N40 o (rowS 0 n c) y i g)).map (fun z => (look2 2 [0, 4, 1] [0, 1, 5, 8, 9, 10] (z.1, z.2.1), z.2.2)) =
    some ((.normal, [o, rowB [y], hB y], [(0, rowS 0 n c), (1, .int .i64 y.id), (5, pb 2 0), (8, newS 1 1), (9, .bool true), (10, iN (i + 1))], true),
      [lt40 n i true] ++ (t1o n c y i x (hN o y) true ++ (t2o n c y i x (hN1 o y) false ++ [nxt29 i])), [], []) := by kernel_rfl
noncomputable def apR (h : Hp) (sz b k b2 : Nat) (us : List ViewV) : OblE := (aAppend Try.prog h.get sz [29, 29] [newS b k, rowS b2 1 22], (newS sz (k + 1), [.put b .dead, .push (rowB us)]))
theorem r40A : (execE Try.prog c40 ([(14, .bool true)] ++ t1c i x false ++ t2c i x true ++ t3c i x ++ [(16, iN (i + 1))]) [] [(47, newS 5 (k + 1), [.put 1 .dead, .push (rowB us)])] 20 c40e (R40 o (rowS 0 n c) y ws k false i g)).map (fun z => (look2 2 [0, 5, 2] [0, 1, 5, 8, 9, 10] (z.1, z.2.1), z.2.2)) =
    some ((.normal, [o, rowB us, hB y], [(0, rowS 0 n c), (1, .int .i64 y.id), (5, pb 2 0), (8, newS 1 (k + 1)), (9, .bool false), (10, iN (i + 1))], true),
      [lt40 n i true] ++ (t1o n c y i x (hR o ws y) false ++ (t2o n c y i x (hR o ws y) true ++ (t3o n c i x (hR o ws y) ++ [nxt29 i]))), [], [apR ((hR o ws y).push (vB x)) 5 1 k 4 us]) := by kernel_rfl
theorem r40B : (execE Try.prog c40 ([(14, .bool true)] ++ t1c i x true ++ t2c i x true ++ t3c i x ++ [(16, iN (i + 1))]) [] [(33, newS 5 (k + 1), [.put 1 .dead, .push (rowB us)]), (47, newS 7 (k + 1 + 1), [.put 5 .dead, .push (rowB zs)])] 20 c40e (R40 o (rowS 0 n c) y ws k false i g)).map (fun z => (look2 2 [0, 7, 2] [0, 1, 5, 8, 9, 10] (z.1, z.2.1), z.2.2)) =
    some ((.normal, [o, rowB zs, hB y], [(0, rowS 0 n c), (1, .int .i64 y.id), (5, pb 2 0), (8, newS 1 (k + 1 + 1)), (9, .bool true), (10, iN (i + 1))], true),
      [lt40 n i true] ++ (t1o n c y i x (hR o ws y) true ++ (t2o n c y i x (hR1 o ws us y) true ++ (t3o n c i x (hR1 o ws us y) ++ [nxt29 i]))), [], [apR ((hR o ws y).push (vB y)) 5 1 k 4 us, apR ((hR1 o ws us y).push (vB x)) 7 5 (k + 1) 6 zs]) := by kernel_rfl
theorem r40C : (execE Try.prog c40 ([(14, .bool true)] ++ t1c i x true ++ t2c i x false ++ [(16, iN (i + 1))]) [] [(33, newS 5 (k + 1), [.put 1 .dead, .push (rowB us)])] 20 c40e (R40 o (rowS 0 n c) y ws k false i g)).map (fun z => (look2 2 [0, 5, 2] [0, 1, 5, 8, 9, 10] (z.1, z.2.1), z.2.2)) =
    some ((.normal, [o, rowB us, hB y], [(0, rowS 0 n c), (1, .int .i64 y.id), (5, pb 2 0), (8, newS 1 (k + 1)), (9, .bool true), (10, iN (i + 1))], true),
      [lt40 n i true] ++ (t1o n c y i x (hR o ws y) true ++ (t2o n c y i x (hR1 o ws us y) false ++ [nxt29 i])), [], [apR ((hR o ws y).push (vB y)) 5 1 k 4 us]) := by kernel_rfl
theorem r40D : (execE Try.prog c40 ([(14, .bool true)] ++ t2c i x true ++ t3c i x ++ [(16, iN (i + 1))]) [] [(47, newS 5 (k + 1), [.put 1 .dead, .push (rowB us)])] 20 c40e (R40 o (rowS 0 n c) y ws k true i g)).map (fun z => (look2 2 [0, 5, 2] [0, 1, 5, 8, 9, 10] (z.1, z.2.1), z.2.2)) =
    some ((.normal, [o, rowB us, hB y], [(0, rowS 0 n c), (1, .int .i64 y.id), (5, pb 2 0), (8, newS 1 (k + 1)), (9, .bool true), (10, iN (i + 1))], true),
      [lt40 n i true] ++ (t2o n c y i x (hR o ws y) true ++ (t3o n c i x (hR o ws y) ++ [nxt29 i])), [], [apR ((hR o ws y).push (vB x)) 5 1 k 4 us]) := by kernel_rfl
theorem r40E : (execE Try.prog c40 ([(14, .bool true)] ++ t2c i x false ++ [(16, iN (i + 1))]) [] [] 20 c40e (R40 o (rowS 0 n c) y ws k true i g)).map (fun z => (look2 2 [0, 1, 2] [0, 1, 5, 8, 9, 10] (z.1, z.2.1), z.2.2)) =
    some ((.normal, [o, rowB ws, hB y], [(0, rowS 0 n c), (1, .int .i64 y.id), (5, pb 2 0), (8, newS 1 k), (9, .bool true), (10, iN (i + 1))], true),
      [lt40 n i true] ++ (t2o n c y i x (hR o ws y) false ++ [nxt29 i]), [], []) := by kernel_rfl
end
section
variable (o : Blk) (s : Value) (n c : Nat) (y : ViewV) (ws us : List ViewV) (k : Nat) (g : Nat → Value)
/-- Behind the loop. -/
abbrev F40 (k : Nat) (g : Nat → Value) : St := stOf 65 g [(0, s), (8, newS 1 k)] [o, rowB ws]
theorem n40f : (execE Try.prog c40 [] [] [] 20 c40f (N40' o (rowS 0 n c) y g)).map (fun z => (look2 2 [0, 4] [0, 8] (z.1, z.2.1), z.2.2)) = some ((.normal, [o, rowB [y]], [(0, rowS 0 n c), (8, newS 1 1)], true), [], [], []) := by kernel_rfl
theorem n40fn : (execE Try.prog c40 [] [] [] 20 c40f (N40' o nilS y g)).map (fun z => (look2 2 [0, 4] [0, 8] (z.1, z.2.1), z.2.2)) = some ((.normal, [o, rowB [y]], [(0, nilS), (8, newS 1 1)], true), [], [], []) := by kernel_rfl
theorem r40f : (execE Try.prog c40 [] [] [(55, newS 5 (k + 1), [.put 1 .dead, .push (rowB us)])] 20 c40f (R40' o (rowS 0 n c) y ws k false g)).map (fun z => (look2 2 [0, 5] [0, 8] (z.1, z.2.1), z.2.2)) =
    some ((.normal, [o, rowB us], [(0, rowS 0 n c), (8, newS 1 (k + 1))], true), [], [], [apR ((hR o ws y).push (vB y)) 5 1 k 4 us]) := by kernel_rfl
theorem r40fn : (execE Try.prog c40 [] [] [(55, newS 5 (k + 1), [.put 1 .dead, .push (rowB us)])] 20 c40f (R40' o nilS y ws k false g)).map (fun z => (look2 2 [0, 5] [0, 8] (z.1, z.2.1), z.2.2)) =
    some ((.normal, [o, rowB us], [(0, nilS), (8, newS 1 (k + 1))], true), [], [], [apR ((hR o ws y).push (vB y)) 5 1 k 4 us]) := by kernel_rfl
theorem r40f' : (execE Try.prog c40 [] [] [] 20 c40f (R40' o (rowS 0 n c) y ws k true g)).map (fun z => (look2 2 [0, 1] [0, 8] (z.1, z.2.1), z.2.2)) = some ((.normal, [o, rowB ws], [(0, rowS 0 n c), (8, newS 1 k)], true), [], [], []) := by kernel_rfl
theorem r40f'n : (execE Try.prog c40 [] [] [] 20 c40f (R40' o nilS y ws k true g)).map (fun z => (look2 2 [0, 1] [0, 8] (z.1, z.2.1), z.2.2)) = some ((.normal, [o, rowB ws], [(0, nilS), (8, newS 1 k)], true), [], [], []) := by kernel_rfl
def hF (o : Blk) (ws : List ViewV) : Hp := heapOf ([o, rowB ws] ++ [.dead]) hp0
theorem r40g : (execE Try.prog c40 [] [(57, .bool false, [.dead])] [] 20 c40g (F40 o s ws k g)).map (fun z => (look2 0 [] [6, 7] (z.1, z.2.1), z.2.2)) =
    some ((.ret, [], [(6, nilS), (7, iN 1)], true), [], [(c40 43 [s] (hF o ws), (.bool false, heapOf [.dead] (hF o ws)))], []) := by kernel_rfl
theorem r40h : (execE Try.prog c40 [] [(57, .bool true, [.dead]), (61, .bool false, [.dead])] [] 20 c40g (F40 o s ws k g)).map (fun z => (look2 0 [] [6, 7] (z.1, z.2.1), z.2.2)) =
    some ((.ret, [], [(6, nilS), (7, iN 1)], true), [], [(c40 43 [s] (hF o ws), (.bool true, heapOf [.dead] (hF o ws))), (c40 43 [newS 1 k] (heapOf [.dead] (hF o ws)), (.bool false, heapOf [.dead] (heapOf [.dead] (hF o ws))))], []) := by kernel_rfl
theorem r40i : (execE Try.prog c40 [] [(57, .bool true, [.dead]), (61, .bool true, [.dead])] [] 20 c40g (F40 o s ws k g)).map (fun z => (look2 1 [1] [6, 7] (z.1, z.2.1), z.2.2)) =
    some ((.ret, [rowB ws], [(6, newS 0 k), (7, iN 0)], true), [], [(c40 43 [s] (hF o ws), (.bool true, heapOf [.dead] (hF o ws))), (c40 43 [newS 1 k] (heapOf [.dead] (hF o ws)), (.bool true, heapOf [.dead] (heapOf [.dead] (hF o ws))))], []) := by kernel_rfl
end
end Go.Proofs.Ytiogdklmhpllfaa.LtA
namespace Go.Proofs.Ytiogdklmhpllfaa.LtA
open Go Go.Proofs Go.Proofs.Ytiogdklmhpllfaa.AI Go.RowKit

def stepS (y : ViewV) (p : List ViewV × Bool) (x : ViewV) : List ViewV × Bool :=
  let q := bif !p.2 && decide (x.id ≥ y.id) then (p.1 ++ [y], true) else p
  (bif x.id != y.id then q.1 ++ [x] else q.1, q.2)
def finS (y : ViewV) (p : List ViewV × Bool) : List ViewV := bif p.2 then p.1 else p.1 ++ [y]
/-- A view is set, by the document's answer. -/
def setR (vs : List ViewV) (y : ViewV) : List ViewV := finS y (vs.foldl (stepS y) ([], false))
theorem fold_step {α β : Type} {f : α → β → α} {a : α} {vs : List β} {i : Nat} {x : β} (h : vs[i]? = some x) : (vs.take (i + 1)).foldl f a = f ((vs.take i).foldl f a) x := by
  rw [List.take_add_one, h]
  simp [List.foldl_append]
theorem RowAt.push {hp : Hp} {b : Nat} {vs : List ViewV} (h : RowAt hp b vs) (hb : b ≠ hp.sz) (o : Blk) : RowAt (hp.push o) b vs := by
  obtain ⟨ty, ro, rest, hg⟩ := h
  exact ⟨ty, ro, rest, by rw [Hp.get_push, if_neg hb, hg]⟩
theorem RowAt.put {hp : Hp} {b b' : Nat} {vs : List ViewV} (h : RowAt hp b vs) (hb : b ≠ b') (o : Blk) : RowAt (hp.put b' o) b vs := by
  obtain ⟨ty, ro, rest, hg⟩ := h
  exact ⟨ty, ro, rest, by rw [Hp.get_put, if_neg hb, hg]⟩
section
variable (o : Blk) (s : Value) (y : ViewV)
def S40 (us : List ViewV) (d : Bool) (i : Nat) (g : Nat → Value) : St := match us with
  | [] => N40 o s y i g
  | _ :: _ => R40 o s y us us.length d i g
def S40' (us : List ViewV) (d : Bool) (g : Nat → Value) : St := match us with
  | [] => N40' o s y g
  | _ :: _ => R40' o s y us us.length d g
end
section
variable {o : Blk} {s : Value} {y : ViewV}
theorem S40_ne {us : List ViewV} {d : Bool} {i : Nat} {g : Nat → Value} (h : us ≠ []) : S40 o s y us d i g = R40 o s y us us.length d i g := by
  cases us with
  | nil => exact absurd rfl h
  | cons => rfl
theorem S40'_ne {us : List ViewV} {d : Bool} {g : Nat → Value} (h : us ≠ []) : S40' o s y us d g = R40' o s y us us.length d g := by
  cases us with
  | nil => exact absurd rfl h
  | cons => rfl
section
variable {vs : List ViewV} {n c i : Nat} {x : ViewV} {h : Hp}
theorem t1_ok (hat : RowAt h 0 vs) (hx : vs[i]? = some x) (hi : i < n) {b : Bool} (hb : decide (x.id ≥ y.id) = b) : Met (t1o n c y i x h b) := Met.cons (vidx_ok hi) (Met.cons (vcell_ok hat hx) (Met.cons (met_bool hb) Met.nil))
theorem t2_ok (hat : RowAt h 0 vs) (hx : vs[i]? = some x) (hi : i < n) {b : Bool} (hb : (x.id != y.id) = b) : Met (t2o n c y i x h b) := Met.cons (vidx_ok hi) (Met.cons (vcell_ok hat hx) (Met.cons (met_bool hb) Met.nil))
theorem t3_ok (hat : RowAt h 0 vs) (hx : vs[i]? = some x) (hi : i < n) : Met (t3o n c i x h) := Met.cons (vidx_ok hi) (Met.cons (vload_ok hat hx) Met.nil)
end
theorem fix21 {o : Blk} (ho : inertB o = true) (us : List ViewV) : ∀ r : List Blk, ∀ i, i < 2 → ∀ o', (o :: rowB us :: r)[i]? = some o' → Fixed 0 o' := fix2 ho us
theorem setloop_fr (ho : inertB o = true) (vs : List ViewV) (hn : vs.length < 1000000) (hrow : vs = [] ∨ ∃ ty ro, o = .cells ty (vrow vs) ro) (c : Nat) (W : Base) (g : Nat → Value) :
    FRwp Try.prog 65 W (.block 0 (.loop c40e)) (N40 o (rowS 0 vs.length c) y 0 g) (fun e st => e = .normal ∧ ∃ g us d, vs.foldl (stepS y) ([], false) = (us, d) ∧ (us = [] → d = false) ∧ us.length ≤ 2 * vs.length ∧ st = S40' o (rowS 0 vs.length c) y us d g) := by
  refine FRwp.block ?_
  refine FRwp.loop (fun k st => ∃ i g us d, i ≤ vs.length ∧ k = vs.length - i ∧ (vs.take i).foldl (stepS y) ([], false) = (us, d) ∧ (us = [] → d = false) ∧ us.length ≤ 2 * i ∧ st = S40 o (rowS 0 vs.length c) y us d i g) ?_ (k := vs.length)
    ⟨0, g, [], false, Nat.zero_le _, rfl, rfl, fun _ => rfl, Nat.le_refl _, rfl⟩
  rintro k st ⟨i, g, us, d, hi, hk, hf, hd, hl, rfl⟩
  cases h14 : decide (Int.ofNat i < Int.ofNat vs.length) with
  | false =>
    have hii : i = vs.length := by simp at h14; omega
    subst hii
    rw [List.take_length] at hf
    cases us with
    | nil =>
      refine FRwp.pieceY c40_ok follows 1 _ _ _ _ (n40x o vs.length c y vs.length g) (Met.cons (met_bool h14) Met.nil) MetH.nil MetE.nil s40e rfl rfl (fix11 ho _) fun g' => .inr ⟨by simp, ?_⟩
      show (if (0 : Nat) = 0 then _ else _)
      rw [if_pos rfl]
      exact ⟨rfl, g', [], d, hf, hd, hl, rfl⟩
    | cons w ws =>
      refine FRwp.pieceY c40_ok follows 2 _ _ _ _ (r40x o vs.length c y (w :: ws) (w :: ws).length vs.length g d) (Met.cons (met_bool h14) Met.nil) MetH.nil MetE.nil s40e rfl rfl (fix21 ho _ _) fun g' => .inr ⟨by simp, ?_⟩
      show (if (0 : Nat) = 0 then _ else _)
      rw [if_pos rfl]
      exact ⟨rfl, g', w :: ws, d, hf, hd, hl, rfl⟩
  | true =>
    have hlt : i < vs.length := by simpa using h14
    obtain ⟨x, hx⟩ : ∃ x, vs[i]? = some x := ⟨_, List.getElem?_eq_getElem hlt⟩
    have hr : ∃ ty ro, o = .cells ty (vrow vs) ro := by
      rcases hrow with h | h
      · rw [h] at hlt; simp at hlt
      · exact h
    have hst := fold_step (f := stepS y) (a := ([], false)) hx
    rw [hf] at hst
    have hlt' : ∀ {p : Obl}, p = lt40 vs.length i true → Met [p] := fun e => by subst e; exact Met.cons (met_bool h14) Met.nil
    have hnx : Met [nxt29 i] := Met.cons (wrap_up (by omega)) Met.nil
    have go : ∀ {us' : List ViewV} {d' : Bool} {g' : Nat → Value} {st' : St}, stepS y (us, d) x = (us', d') → us' ≠ [] → us'.length ≤ us.length + 2 → st' = R40 o (rowS 0 vs.length c) y us' us'.length d' (i + 1) g' →
        ∃ k', k' < k ∧ ∃ i g us d, i ≤ vs.length ∧ k' = vs.length - i ∧ (vs.take i).foldl (stepS y) ([], false) = (us, d) ∧ (us = [] → d = false) ∧ us.length ≤ 2 * i ∧ st' = S40 o (rowS 0 vs.length c) y us d i g := by
      intro us' d' g' st' h1 h2 h3 h4
      refine ⟨vs.length - (i + 1), by omega, i + 1, g', us', d', by omega, rfl, by rw [hst, h1], fun e => absurd e h2, by omega, ?_⟩
      rw [S40_ne h2, h4]
    cases us with
    | nil =>
      have hd0 := hd rfl
      subst hd0
      have a0 : RowAt (hN o y) 0 vs := rowAt0 hr
      have a1 : RowAt (hN1 o y) 0 vs := (a0.push (by show (0 : Nat) ≠ 3; omega) _).push (by show (0 : Nat) ≠ 4; omega) _
      cases hge : decide (x.id ≥ y.id) with
      | false =>
        have hne : (x.id != y.id) = true := by have := of_decide_eq_false hge; simp; omega
        refine FRwp.pieceY c40_ok follows 2 _ _ _ _ (n40A o vs.length c y i x g) (met_app (hlt' rfl) (met_app (t1_ok a0 hx hlt hge) (met_app (t2_ok a0 hx hlt hne) (met_app (t3_ok a0 hx hlt) hnx)))) MetH.nil MetE.nil s40e rfl rfl (fix21 ho _ _) fun g' => .inl ⟨rfl, go (us' := [x]) (d' := false) (g' := g') ?_ (by simp) (by simp) rfl⟩
        simp only [stepS, hge, hne]; rfl
      | true =>
        cases hne : (x.id != y.id) with
        | true =>
          refine FRwp.pieceY c40_ok follows 2 _ _ _ _ (n40B o vs.length c y i x g) (met_app (hlt' rfl) (met_app (t1_ok a0 hx hlt hge) (met_app (t2_ok a1 hx hlt hne) (met_app (t3_ok a1 hx hlt) hnx)))) MetH.nil MetE.nil s40e rfl rfl (fix21 ho _ _) fun g' => .inl ⟨rfl, go (us' := [y, x]) (d' := true) (g' := g') ?_ (by simp) (by simp) rfl⟩
          simp only [stepS, hge, hne]; rfl
        | false =>
          refine FRwp.pieceY c40_ok follows 2 _ _ _ _ (n40C o vs.length c y i x g) (met_app (hlt' rfl) (met_app (t1_ok a0 hx hlt hge) (met_app (t2_ok a1 hx hlt hne) hnx))) MetH.nil MetE.nil s40e rfl rfl (fix21 ho _ _) fun g' => .inl ⟨rfl, go (us' := [y]) (d' := true) (g' := g') ?_ (by simp) (by simp) rfl⟩
          simp only [stepS, hge, hne]; rfl
    | cons w ws =>
      generalize hus : w :: ws = us at *
      have hun : us ≠ [] := by rw [← hus]; simp
      have e1 : ∀ z : ViewV, (us ++ [z]).length = us.length + 1 := fun z => by simp
      have b0 : RowAt (hR o us y) 0 vs := rowAt0 hr
      have b1 : ∀ zs, RowAt (hR1 o us zs y) 0 vs := fun zs => ((b0.push (by show (0 : Nat) ≠ 4; omega) _).put (by omega) _).push (by show (0 : Nat) ≠ 5; omega) _
      have gR : ∀ z, ((hR o us y).push (vB z)).get 1 = some (rowB us) := fun z => by
        rw [Hp.get_push, if_neg (by show (1 : Nat) ≠ 4; omega)]; unfold hR; rw [heapOf0_get]; rfl
      have gV : ∀ z, ((hR o us y).push (vB z)).get 4 = some (vB z) := fun z => by
        rw [Hp.get_push, if_pos (by show (4 : Nat) = 4; rfl)]
      have ap1 : ∀ z, (apR ((hR o us y).push (vB z)) 5 1 us.length 4 (us ++ [z])).1 = some (apR ((hR o us y).push (vB z)) 5 1 us.length 4 (us ++ [z])).2 := fun z => app_one (gR z) (gV z) rfl (by omega)
      have ap2 : (apR ((hR1 o us (us ++ [y]) y).push (vB x)) 7 5 (us.length + 1) 6 (us ++ [y] ++ [x])).1 = some (apR ((hR1 o us (us ++ [y]) y).push (vB x)) 7 5 (us.length + 1) 6 (us ++ [y] ++ [x])).2 := by
        refine app_one ?_ ?_ (e1 y).symm (by omega)
        · rw [Hp.get_push, if_neg (by show (5 : Nat) ≠ 6; omega)]
          unfold hR1
          rw [Hp.get_push, if_pos (by show (5 : Nat) = 5; rfl)]
        · rw [Hp.get_push, if_pos (by show (6 : Nat) = 6; rfl)]; rfl
      have hS0 : S40 o (rowS 0 vs.length c) y us d i g = R40 o (rowS 0 vs.length c) y us us.length d i g := S40_ne hun
      rw [hS0]
      cases d with
      | false =>
        cases hge : decide (x.id ≥ y.id) with
        | false =>
          have hne : (x.id != y.id) = true := by have := of_decide_eq_false hge; simp; omega
          refine FRwp.pieceY c40_ok follows 2 _ _ _ _ (r40A o vs.length c y us (us ++ [x]) us.length i x g) (met_app (hlt' rfl) (met_app (t1_ok b0 hx hlt hge) (met_app (t2_ok b0 hx hlt hne) (met_app (t3_ok b0 hx hlt) hnx)))) MetH.nil (MetE.cons (ap1 x) MetE.nil) s40e rfl rfl (fix21 ho _ _) fun g' => .inl ⟨rfl, go (us' := us ++ [x]) (d' := false) (g' := g') ?_ (by simp) (by simp) (by rw [e1])⟩
          simp only [stepS, hge, hne]; rfl
        | true =>
          cases hne : (x.id != y.id) with
          | true =>
            refine FRwp.pieceY c40_ok follows 2 _ _ _ _ (r40B o vs.length c y us (us ++ [y]) (us ++ [y] ++ [x]) us.length i x g) (met_app (hlt' rfl) (met_app (t1_ok b0 hx hlt hge) (met_app (t2_ok (b1 _) hx hlt hne) (met_app (t3_ok (b1 _) hx hlt) hnx)))) MetH.nil (MetE.cons (ap1 y) (MetE.cons ap2 MetE.nil)) s40e rfl rfl (fix21 ho _ _) fun g' => .inl ⟨rfl, go (us' := us ++ [y] ++ [x]) (d' := true) (g' := g') ?_ (by simp) (by simp) (by rw [List.length_append, e1]; rfl)⟩
            simp only [stepS, hge, hne]; rfl
          | false =>
            refine FRwp.pieceY c40_ok follows 2 _ _ _ _ (r40C o vs.length c y us (us ++ [y]) us.length i x g) (met_app (hlt' rfl) (met_app (t1_ok b0 hx hlt hge) (met_app (t2_ok (b1 _) hx hlt hne) hnx))) MetH.nil (MetE.cons (ap1 y) MetE.nil) s40e rfl rfl (fix21 ho _ _) fun g' => .inl ⟨rfl, go (us' := us ++ [y]) (d' := true) (g' := g') ?_ (by simp) (by simp) (by rw [e1])⟩
            simp only [stepS, hge, hne]; rfl
      | true =>
        cases hne : (x.id != y.id) with
        | true =>
          refine FRwp.pieceY c40_ok follows 2 _ _ _ _ (r40D o vs.length c y us (us ++ [x]) us.length i x g) (met_app (hlt' rfl) (met_app (t2_ok b0 hx hlt hne) (met_app (t3_ok b0 hx hlt) hnx))) MetH.nil (MetE.cons (ap1 x) MetE.nil) s40e rfl rfl (fix21 ho _ _) fun g' => .inl ⟨rfl, go (us' := us ++ [x]) (d' := true) (g' := g') ?_ (by simp) (by simp) (by rw [e1])⟩
          simp only [stepS, hne]; rfl
        | false =>
          refine FRwp.pieceY c40_ok follows 2 _ _ _ _ (r40E o vs.length c y us us.length i x g) (met_app (hlt' rfl) (met_app (t2_ok b0 hx hlt hne) hnx)) MetH.nil MetE.nil s40e rfl rfl (fix21 ho _ _) fun g' => .inl ⟨rfl, go (us' := us) (d' := true) (g' := g') ?_ hun (by omega) rfl⟩
          simp only [stepS, hne]; rfl
end
/-- What the frame ends with. -/
def EndsT (vs : List ViewV) (y : ViewV) (e : Exit) (st : St) : Prop :=
  e = .ret ∧ ((rightB vs && rightB (setR vs y)) = true ∧ (∃ g, st = stOf 65 g [(6, newS 0 (setR vs y).length), (7, iN 0)] [rowB (setR vs y)]) ∨ (rightB vs && rightB (setR vs y)) = false ∧ ∃ g, st = stOf 65 g [(6, nilS), (7, iN 1)] [])
theorem c40_43 {vs : List ViewV} {s : Value} {hp : Hp} (h : TN vs s hp) (hn : vs.length < 1000000) : c40 43 [s] hp = some (.bool (rightB vs), heapOf [.dead] hp) := by
  show aCall Try.prog E40 5 43 _ _ = _
  rw [aCall]
  have hE : E40 43 = some fun _ args h => G43 args h := rfl
  rw [hE]
  exact G43_of h.tq hn
theorem setend_fr (o : Blk) (ho : inertB o = true) (s : Value) (vs : List ViewV) (y : ViewV) (hn : vs.length < 1000000) (hT : TN vs s (hF o (setR vs y))) (hl : rightB vs = true → (setR vs y).length < 1000000) (W : Base) (g : Nat → Value) :
    FRwp Try.prog 65 W c40g (F40 o s (setR vs y) (setR vs y).length g) (EndsT vs y) := by
  have a1 := c40_43 hT hn
  have kF : (hF o (setR vs y)).ok := heapOf_ok _ _ hp0_ok
  cases hr : rightB vs with
  | false =>
    rw [hr] at a1
    exact FRwp.pieceY c40_ok follows 0 _ _ _ _ (r40g o s (setR vs y) (setR vs y).length g) Met.nil (MetH.cons a1 MetH.nil) MetE.nil s40g rfl rfl (noFix _) fun g' => ⟨rfl, .inr ⟨by rw [hr]; rfl, g', rfl⟩⟩
  | true =>
    rw [hr] at a1
    have hT2 : TN (setR vs y) (newS 1 (setR vs y).length) (heapOf [.dead] (hF o (setR vs y))) := TN.new (c := 22) rfl (get_old kF (by unfold hF; rw [heapOf0_get]; rfl))
    have a2 := c40_43 hT2 (hl hr)
    cases hr2 : rightB (setR vs y) with
    | false =>
      rw [hr2] at a2
      exact FRwp.pieceY c40_ok follows 0 _ _ _ _ (r40h o s (setR vs y) (setR vs y).length g) Met.nil (MetH.cons a1 (MetH.cons a2 MetH.nil)) MetE.nil s40g rfl rfl (noFix _) fun g' => ⟨rfl, .inr ⟨by rw [hr, hr2]; rfl, g', rfl⟩⟩
    | true =>
      rw [hr2] at a2
      exact FRwp.pieceY c40_ok follows 1 _ _ _ _ (r40i o s (setR vs y) (setR vs y).length g) Met.nil (MetH.cons a1 (MetH.cons a2 MetH.nil)) MetE.nil s40g rfl rfl (fix1 _ []) fun g' => ⟨rfl, .inl ⟨by rw [hr, hr2]; rfl, g', rfl⟩⟩
theorem rset_fr (o : Blk) (ho : inertB o = true) (vs : List ViewV) (hn : vs.length < 1000000) (hrow : vs = [] ∨ ∃ ty ro, o = .cells ty (vrow vs) ro) (y : ViewV) (hl : rightB vs = true → (setR vs y).length < 1000000) (c : Nat) (W : Base) :
    FRwp Try.prog 65 W code40 (B40 o (rowS 0 vs.length c) y) (EndsT vs y) := by
  refine FRwp.seq (Q1 := fun x st => x = .normal ∧ ∃ g, st = A40 o (rowS 0 vs.length c) y g) (FRwp.pieceY c40_ok follows 1 _ _ _ _ (r40a o vs.length c y) Met.nil MetH.nil MetE.nil s40a rfl rfl (fix11 ho _) fun g => ⟨rfl, g, rfl⟩) ?_ (fun x st hne hq => absurd hq.1 hne)
  rintro st ⟨-, g, rfl⟩
  refine FRwp.seq (Q1 := fun x st => x = .normal ∧ ∃ g, st = A40' o (rowS 0 vs.length c) y g) (FRwp.pieceY c40_ok follows 1 _ _ _ _ (r40b o vs.length c y g) Met.nil MetH.nil MetE.nil s40b rfl rfl (fix11 ho _) fun g => ⟨rfl, g, rfl⟩) ?_ (fun x st hne hq => absurd hq.1 hne)
  rintro st ⟨-, g, rfl⟩
  refine FRwp.seq (Q1 := fun x st => x = .normal ∧ ∃ g, st = N40' o (rowS 0 vs.length c) y g) (FRwp.pieceY c40_ok follows 1 _ _ _ _ (r40c o vs.length c y g) Met.nil MetH.nil MetE.nil s40c rfl rfl (fix11 ho _) fun g => ⟨rfl, g, rfl⟩) ?_ (fun x st hne hq => absurd hq.1 hne)
  rintro st ⟨-, g, rfl⟩
  refine FRwp.seq (Q1 := fun e st => e = .normal ∧ ∃ g us d, vs.foldl (stepS y) ([], false) = (us, d) ∧ (us = [] → d = false) ∧ us.length ≤ 2 * vs.length ∧ st = S40' o (rowS 0 vs.length c) y us d g) ?_ ?_ (fun x st hne hq => absurd hq.1 hne)
  · refine FRwp.seq (Q1 := fun x st => x = .normal ∧ ∃ g, st = N40 o (rowS 0 vs.length c) y 0 g) (FRwp.pieceY c40_ok follows 1 _ _ _ _ (r40d o vs.length c y g) Met.nil MetH.nil MetE.nil s40d rfl rfl (fix11 ho _) fun g => ⟨rfl, g, rfl⟩) ?_ (fun x st hne hq => absurd hq.1 hne)
    rintro st ⟨-, g, rfl⟩
    exact setloop_fr ho vs hn hrow c W g
  · rintro st ⟨-, g, us, d, hf, hd, hle, rfl⟩
    refine FRwp.seq (Q1 := fun x st => x = .normal ∧ ∃ g, st = F40 o (rowS 0 vs.length c) (setR vs y) (setR vs y).length g) ?_ ?_ (fun x st hne hq => absurd hq.1 hne)
    · have hset : setR vs y = finS y (us, d) := by unfold setR; rw [hf]
      cases us with
      | nil =>
        have hd0 := hd rfl
        subst hd0
        refine FRwp.pieceY c40_ok follows 2 _ _ _ _ (n40f o vs.length c y g) Met.nil MetH.nil MetE.nil s40f rfl rfl (fix21 ho _ _) fun g' => ⟨rfl, g', ?_⟩
        rw [hset]; rfl
      | cons w ws =>
        rw [S40'_ne (by simp)]
        cases d with
        | false =>
          refine FRwp.pieceY c40_ok follows 2 _ _ _ _ (r40f o vs.length c y (w :: ws) ((w :: ws) ++ [y]) (w :: ws).length g) Met.nil MetH.nil (MetE.cons (app_one ?_ ?_ rfl (by omega)) MetE.nil) s40f rfl rfl (fix21 ho _ _) fun g' => ⟨rfl, g', ?_⟩
          · rw [Hp.get_push, if_neg (by show (1 : Nat) ≠ 4; omega)]; unfold hR; rw [heapOf0_get]; rfl
          · rw [Hp.get_push, if_pos (by show (4 : Nat) = 4; rfl)]; rfl
          · have e : setR vs y = (w :: ws) ++ [y] := hset
            have e1 : ((w :: ws) ++ [y]).length = (w :: ws).length + 1 := by simp
            rw [e, e1]
        | true =>
          refine FRwp.pieceY c40_ok follows 2 _ _ _ _ (r40f' o vs.length c y (w :: ws) (w :: ws).length g) Met.nil MetH.nil MetE.nil s40f rfl rfl (fix21 ho _ _) fun g' => ⟨rfl, g', ?_⟩
          have e : setR vs y = w :: ws := hset
          rw [e]
    · rintro st ⟨-, g, rfl⟩
      exact setend_fr o ho _ vs y hn (.inr ⟨0, c, o, rfl, by unfold hF; rw [heapOf0_get]; rfl, ho, hrow⟩) hl W g
theorem rset_nil (y : ViewV) (W : Base) : FRwp Try.prog 65 W code40 (B40 .dead nilS y) (EndsT [] y) := by
  have ho : inertB (.dead) = true := rfl
  refine FRwp.seq (Q1 := fun x st => x = .normal ∧ ∃ g, st = A40 .dead nilS y g) (FRwp.pieceY c40_ok follows 1 _ _ _ _ (r40an .dead y) Met.nil MetH.nil MetE.nil s40a rfl rfl (fix11 ho _) fun g => ⟨rfl, g, rfl⟩) ?_ (fun x st hne hq => absurd hq.1 hne)
  rintro st ⟨-, g, rfl⟩
  refine FRwp.seq (Q1 := fun x st => x = .normal ∧ ∃ g, st = A40' .dead nilS y g) (FRwp.pieceY c40_ok follows 1 _ _ _ _ (r40bn .dead y g) Met.nil MetH.nil MetE.nil s40b rfl rfl (fix11 ho _) fun g => ⟨rfl, g, rfl⟩) ?_ (fun x st hne hq => absurd hq.1 hne)
  rintro st ⟨-, g, rfl⟩
  refine FRwp.seq (Q1 := fun x st => x = .normal ∧ ∃ g, st = N40' .dead nilS y g) (FRwp.pieceY c40_ok follows 1 _ _ _ _ (r40cn .dead y g) Met.nil MetH.nil MetE.nil s40c rfl rfl (fix11 ho _) fun g => ⟨rfl, g, rfl⟩) ?_ (fun x st hne hq => absurd hq.1 hne)
  rintro st ⟨-, g, rfl⟩
  refine FRwp.seq (Q1 := fun e st => e = .normal ∧ ∃ g, st = N40' .dead nilS y g) ?_ ?_ (fun x st hne hq => absurd hq.1 hne)
  · refine FRwp.seq (Q1 := fun x st => x = .normal ∧ ∃ g, st = N40 .dead nilS y 0 g) (FRwp.pieceY c40_ok follows 1 _ _ _ _ (r40dn .dead y g) Met.nil MetH.nil MetE.nil s40d rfl rfl (fix11 ho _) fun g => ⟨rfl, g, rfl⟩) ?_ (fun x st hne hq => absurd hq.1 hne)
    rintro st ⟨-, g, rfl⟩
    refine FRwp.block ?_
    refine FRwp.loop (fun k st => ∃ g, st = N40 .dead nilS y 0 g) ?_ (k := 0) ⟨g, rfl⟩
    rintro k st ⟨g, rfl⟩
    refine FRwp.pieceY c40_ok follows 1 _ _ _ _ (n40y .dead y g) Met.nil MetH.nil MetE.nil s40e rfl rfl (fix11 ho _) fun g' => .inr ⟨by simp, ?_⟩
    show (if (0 : Nat) = 0 then _ else _)
    rw [if_pos rfl]
    exact ⟨rfl, g', rfl⟩
  · rintro st ⟨-, g, rfl⟩
    refine FRwp.seq (Q1 := fun x st => x = .normal ∧ ∃ g, st = F40 .dead nilS (setR [] y) (setR [] y).length g) ?_ ?_ (fun x st hne hq => absurd hq.1 hne)
    · exact FRwp.pieceY c40_ok follows 2 _ _ _ _ (n40fn .dead y g) Met.nil MetH.nil MetE.nil s40f rfl rfl (fix21 ho _ _) fun g' => ⟨rfl, g', rfl⟩
    · rintro st ⟨-, g, rfl⟩
      exact setend_fr .dead ho _ [] y (by simp) (.inl ⟨rfl, rfl⟩) (fun _ => by show (1 : Nat) < 1000000; omega) W g

/-! ### What it is -/
theorem fold_done {y : ViewV} : ∀ {vs : List ViewV} {o : List ViewV}, (∀ x ∈ vs, x.id ≠ y.id) → vs.foldl (stepS y) (o, true) = (o ++ vs, true)
  | [], o, _ => by simp
  | v :: vs, o, h => by
    have hne : (v.id != y.id) = true := by simpa using h v (.head _)
    have e : stepS y (o, true) v = (o ++ [v], true) := by simp only [stepS, hne]; rfl
    rw [List.foldl_cons, e, fold_done fun x hx => h x (.tail _ hx), List.append_assoc]; rfl
theorem fold_set {y : ViewV} : ∀ {vs : List ViewV} {o : List ViewV}, Up vs → finS y (vs.foldl (stepS y) (o, false)) = o ++ setF vs y
  | [], o, _ => by simp [finS, setF]
  | v :: vs, o, h => by
    have hu := (List.pairwise_cons.1 h).1
    rcases Int.lt_trichotomy v.id y.id with h1 | h1 | h1
    · have e : stepS y (o, false) v = (o ++ [v], false) := by
        have a : decide (v.id ≥ y.id) = false := decide_eq_false (by omega)
        have b : (v.id != y.id) = true := by simp; omega
        simp only [stepS, a, b]; rfl
      rw [List.foldl_cons, e, fold_set (List.pairwise_cons.1 h).2]
      unfold setF
      rw [List.filter_cons_of_pos (by simpa using h1), List.filter_cons_of_neg (by simp; omega)]
      simp
    · have e : stepS y (o, false) v = (o ++ [y], true) := by
        have a : decide (v.id ≥ y.id) = true := decide_eq_true (by omega)
        have b : (v.id != y.id) = false := by simp; omega
        simp only [stepS, a, b]; rfl
      rw [List.foldl_cons, e, fold_done fun x hx => by have := hu x hx; omega]
      unfold setF
      rw [List.filter_cons_of_neg (by simp; omega), List.filter_cons_of_neg (by simp; omega), List.filter_eq_nil_iff.2 (fun x hx => by have := hu x hx; simp; omega), List.filter_eq_self.2 (fun x hx => by have := hu x hx; simp; omega)]
      simp [finS]
    · have e : stepS y (o, false) v = (o ++ [y] ++ [v], true) := by
        have a : decide (v.id ≥ y.id) = true := decide_eq_true (by omega)
        have b : (v.id != y.id) = true := by simp; omega
        simp only [stepS, a, b]; rfl
      rw [List.foldl_cons, e, fold_done fun x hx => by have := hu x hx; omega]
      unfold setF
      rw [List.filter_cons_of_neg (by simp; omega), List.filter_cons_of_pos (by simpa using h1), List.filter_eq_nil_iff.2 (fun x hx => by have := hu x hx; simp; omega), List.filter_eq_self.2 (fun x hx => by have := hu x hx; simp; omega)]
      simp [finS]
theorem setR_eq {vs : List ViewV} {y : ViewV} (h : rightB vs = true) : setR vs y = setV vs y := by
  have hu := (right_iff.1 h).2
  unfold setR
  rw [fold_set hu, setV_eq hu, List.nil_append]
theorem setR_right {vs : List ViewV} {y : ViewV} (h : rightB vs = true) : rightB (setR vs y) = oneV y := by
  rw [setR_eq h]
  cases hy : oneV y with
  | true => exact setV_right h hy
  | false =>
    cases e : rightB (setV vs y) with
    | false => rfl
    | true =>
      have := (right_iff.1 e).1 y ((mem_setV h).2 (.inl rfl))
      rw [hy] at this; cases this
theorem setR_len {vs : List ViewV} {y : ViewV} (h : rightB vs = true) : (setR vs y).length ≤ vs.length + 1 := by
  rw [setR_eq h, setV_len]; cases fnd vs y.id <;> simp
theorem setR_and (vs : List ViewV) (y : ViewV) : (rightB vs && rightB (setR vs y)) = (rightB vs && oneV y) := by
  cases h : rightB vs with
  | false => rfl
  | true => rw [setR_right h]
end Go.Proofs.Ytiogdklmhpllfaa.LtA
namespace Go.Proofs.Ytiogdklmhpllfaa.LtA
open Go Go.Proofs Go.Proofs.Ytiogdklmhpllfaa.AI Go.RowKit

theorem r40a0 (y : ViewV) : (execE Try.prog c40 [] [] [] 10 c40a ⟨tmsOf [nilS, .int .i64 y.id, hcA y] 0 .leaf, heapOf [.dead] hp0, []⟩).map (fun z => (look2 1 [0, 1] [0, 1, 5] (z.1, z.2.1), z.2.2)) = some ((.normal, [.dead, hB y], [(0, nilS), (1, .int .i64 y.id), (5, pb 1 0)], true), [], [], []) := by kernel_rfl
theorem rset_nil0 (y : ViewV) (W : Base) : FRwp Try.prog 65 W code40 ⟨tmsOf [nilS, .int .i64 y.id, hcA y] 0 .leaf, heapOf [.dead] hp0, []⟩ (EndsT [] y) := by
  have ho : inertB (.dead) = true := rfl
  refine FRwp.seq (Q1 := fun x st => x = .normal ∧ ∃ g, st = A40 .dead nilS y g) (FRwp.pieceY c40_ok follows 1 _ _ _ _ (r40a0 y) Met.nil MetH.nil MetE.nil s40a rfl rfl (fix11 ho _) fun g => ⟨rfl, g, rfl⟩) ?_ (fun x st hne hq => absurd hq.1 hne)
  rintro st ⟨-, g, rfl⟩
  refine FRwp.seq (Q1 := fun x st => x = .normal ∧ ∃ g, st = A40' .dead nilS y g) (FRwp.pieceY c40_ok follows 1 _ _ _ _ (r40bn .dead y g) Met.nil MetH.nil MetE.nil s40b rfl rfl (fix11 ho _) fun g => ⟨rfl, g, rfl⟩) ?_ (fun x st hne hq => absurd hq.1 hne)
  rintro st ⟨-, g, rfl⟩
  refine FRwp.seq (Q1 := fun x st => x = .normal ∧ ∃ g, st = N40' .dead nilS y g) (FRwp.pieceY c40_ok follows 1 _ _ _ _ (r40cn .dead y g) Met.nil MetH.nil MetE.nil s40c rfl rfl (fix11 ho _) fun g => ⟨rfl, g, rfl⟩) ?_ (fun x st hne hq => absurd hq.1 hne)
  rintro st ⟨-, g, rfl⟩
  refine FRwp.seq (Q1 := fun e st => e = .normal ∧ ∃ g, st = N40' .dead nilS y g) ?_ ?_ (fun x st hne hq => absurd hq.1 hne)
  · refine FRwp.seq (Q1 := fun x st => x = .normal ∧ ∃ g, st = N40 .dead nilS y 0 g) (FRwp.pieceY c40_ok follows 1 _ _ _ _ (r40dn .dead y g) Met.nil MetH.nil MetE.nil s40d rfl rfl (fix11 ho _) fun g => ⟨rfl, g, rfl⟩) ?_ (fun x st hne hq => absurd hq.1 hne)
    rintro st ⟨-, g, rfl⟩
    refine FRwp.block ?_
    refine FRwp.loop (fun k st => ∃ g, st = N40 .dead nilS y 0 g) ?_ (k := 0) ⟨g, rfl⟩
    rintro k st ⟨g, rfl⟩
    refine FRwp.pieceY c40_ok follows 1 _ _ _ _ (n40y .dead y g) Met.nil MetH.nil MetE.nil s40e rfl rfl (fix11 ho _) fun g' => .inr ⟨by simp, ?_⟩
    show (if (0 : Nat) = 0 then _ else _)
    rw [if_pos rfl]
    exact ⟨rfl, g', rfl⟩
  · rintro st ⟨-, g, rfl⟩
    refine FRwp.seq (Q1 := fun x st => x = .normal ∧ ∃ g, st = F40 .dead nilS (setR [] y) (setR [] y).length g) ?_ ?_ (fun x st hne hq => absurd hq.1 hne)
    · exact FRwp.pieceY c40_ok follows 2 _ _ _ _ (n40fn .dead y g) Met.nil MetH.nil MetE.nil s40f rfl rfl (fix21 ho _ _) fun g' => ⟨rfl, g', rfl⟩
    · rintro st ⟨-, g, rfl⟩
      exact setend_fr .dead ho _ [] y (by simp) (.inl ⟨rfl, rfl⟩) (fun _ => by show (1 : Nat) < 1000000; omega) W g
open Classical in
noncomputable def g40 (vs : List ViewV) : HeapFn := fun args hp => match args with
  | [s, .int .i64 id, .agg cs] => match cs.toList with
    | [.bool n, .int .i64 t, .int .i64 o, .int .i64 r, .int .i64 d, .int .i64 i] =>
      if TN vs s hp then (match rightB vs && oneV ⟨id, n, t, o, r, d, i⟩ with
        | true => some (.tuple #[newS hp.sz (setV vs ⟨id, n, t, o, r, d, i⟩).length, iN 0], heapOf ([rowB (setV vs ⟨id, n, t, o, r, d, i⟩)] ++ [.dead]) hp)
        | false => some (.tuple #[nilS, iN 1], heapOf ([] ++ [.dead]) hp))
      else none
    | _ => none
  | _ => none
open Classical in
theorem g40_of {vs : List ViewV} {s : Value} {hp : Hp} (y : ViewV) (h : TN vs s hp) : g40 vs [s, .int .i64 y.id, hcA y] hp = match rightB vs && oneV y with
    | true => some (.tuple #[newS hp.sz (setV vs y).length, iN 0], heapOf [rowB (setV vs y), .dead] hp)
    | false => some (.tuple #[nilS, iN 1], heapOf [.dead] hp) := by
  show (if TN vs s hp then _ else _) = _
  rw [if_pos h]
  rfl
theorem hk40 (vs : List ViewV) (hn : vs.length < 999999) : CallGoal Try.prog 40 (g40 vs) := scan_goal follows Try.func40 body40 (by kernel_rfl) fun args hp v hp' h hk => by
  unfold g40 at h
  rw [ntmps40]
  split at h
  case h_2 => cases h
  rename_i s id cs
  split at h
  case h_2 => cases h
  rename_i n t o r d i hcs
  obtain rfl := arr_of hcs
  generalize hy : (⟨id, n, t, o, r, d, i⟩ : ViewV) = y at h
  have ea : .int .i64 id = Value.int .i64 y.id := by rw [← hy]
  have eh : Value.agg [.bool n, .int .i64 t, .int .i64 o, .int .i64 r, .int .i64 d, .int .i64 i].toArray = hcA y := by rw [← hy]; rfl
  rw [ea, eh]
  split at h
  case isFalse => cases h
  rename_i hT
  have run : ∃ (K0 : List Nat), nodupB K0 = true ∧ (∀ b ∈ K0, ∃ o, hp.get b = some o ∧ startOk o = true) ∧ ([s, .int .i64 y.id, hcA y]).all ok3 = true ∧ ∀ W, FRwp Try.prog 65 W code40 ⟨tmsOf ([s, .int .i64 y.id, hcA y].map (sh3 K0 0)) 0 .leaf, startHp K0 hp, []⟩ (EndsT vs y) := by
    rcases hT with ⟨rfl, rfl⟩ | ⟨b, c, ob, rfl, hb, hi, hr⟩
    · refine ⟨[], rfl, (fun b hb => by cases hb), rfl, fun W => ?_⟩
      have e1 : [nilS, .int .i64 y.id, hcA y].map (sh3 [] 0) = [nilS, .int .i64 y.id, hcA y] := by simp [sh3, sh2, sh1, nilS, hcA]
      rw [e1]
      exact rset_nil0 y W
    · refine ⟨[b], rfl, fun b' hb' => ?_, rfl, fun W => ?_⟩
      · have : b' = b := by simpa using hb'
        subst this
        exact ⟨ob, hb, inert_start hi⟩
      · have e1 : [rowS b vs.length c, .int .i64 y.id, hcA y].map (sh3 [b] 0) = [rowS 0 vs.length c, .int .i64 y.id, hcA y] := by simp [sh3, sh2, sh1, rho, idxOf, rowS, hcA]
        rw [e1, start1 hb hi]
        exact rset_fr (roBlk ob) (ro_inert hi) vs (by omega) (ro_row hr) y (fun h => by have := setR_len (y := y) h; omega) c W
  obtain ⟨K0, n0, hst, hall, hrun⟩ := run
  split at h
  · rename_i hro
    cases h
    refine ⟨K0, [0], [rowB (setV vs y)], rfl, rfl, n0, rfl, hst, hall, (by simp), fun W => FRwp.mono (hrun W) fun e st q => ?_⟩
    obtain ⟨rfl, ⟨-, g, rfl⟩ | ⟨h2, -⟩⟩ := q
    · rw [setR_eq (Bool.and_eq_true_iff.1 hro).1]
      have hg := row_fin (N := 65) (us := setV vs y) (v := nilS) (t := 0) (L := [(6, newS 0 (setV vs y).length), (7, iN 0)]) (g := g)
      refine ⟨.inr rfl, rfl, _, q40 _ _ _ g, rfl, fun b' hb' => ?_, ?_, out_row hg⟩
      · have : b' = 0 := by simpa using hb'
        subst this
        exact ⟨_, hg, ok2_inert (row_block _), rfl⟩
      · simp [sh3, sh2, sh1, rho, idxOf, newS, rowS, iN]
    · rw [setR_and, hro] at h2; cases h2
  · rename_i hro
    cases h
    refine ⟨K0, [], [], rfl, rfl, n0, rfl, hst, hall, (by simp), fun W => FRwp.mono (hrun W) fun e st q => ?_⟩
    obtain ⟨rfl, ⟨h2, -⟩ | ⟨-, g, rfl⟩⟩ := q
    · rw [setR_and, hro] at h2; cases h2
    · exact ⟨.inr rfl, rfl, _, q40 _ _ _ g, rfl, (fun b hb => by cases hb), by simp [sh3, sh2, sh1, nilS, iN], rfl⟩
noncomputable def G40 : HeapFn := atRow (fun vs => vs.length < 999999) g40
theorem hkG40 : CallGoal Try.prog 40 G40 := atRow_goal fun vs _ hn => hk40 vs hn
theorem G40_of {vs : List ViewV} {s : Value} {hp : Hp} (y : ViewV) (h : TN vs s hp) (hn : vs.length < 999999) : G40 [s, .int .i64 y.id, hcA y] hp = match rightB vs && oneV y with
    | true => some (.tuple #[newS hp.sz (setV vs y).length, iN 0], heapOf [rowB (setV vs y), .dead] hp)
    | false => some (.tuple #[nilS, iN 1], heapOf [.dead] hp) := by
  unfold G40
  rw [atRow_of h (by omega) hn]
  exact g40_of y h

/-! ### Drop -/
noncomputable def fb42 : Code := (Try.f42.body).getD .skip
noncomputable def c42a : Code := sL fb42
noncomputable def c42b : Code := sL (sR fb42)
noncomputable def c42c : Code := sL (sR (sR fb42))
noncomputable def c42d : Code := sL (sL (sR (sR (sR fb42))))
noncomputable def c42e : Code := unL (unB (sR (sL (sR (sR (sR fb42))))))
noncomputable def c42g : Code := sR (sR (sR (sR fb42)))
noncomputable abbrev code42 : Code := .seq c42a (.seq c42b (.seq c42c (.seq (.seq c42d (.block 0 (.loop c42e))) c42g)))
theorem body42 : Try.f42.body = some code42 := by kernel_rfl
theorem ntmps42 : Try.f42.ntmps = 37 := by kernel_rfl
theorem s42a : codeSafe Try.prog 37 c42a = true := by kernel_rfl
theorem s42b : codeSafe Try.prog 37 c42b = true := by kernel_rfl
theorem s42c : codeSafe Try.prog 37 c42c = true := by kernel_rfl
theorem s42d : codeSafe Try.prog 37 c42d = true := by kernel_rfl
theorem s42e : codeSafe Try.prog 37 c42e = true := by kernel_rfl
theorem s42g : codeSafe Try.prog 37 c42g = true := by kernel_rfl
theorem q42 (v u : Value) (O : List Blk) (g : Nat → Value) : retVal Try.prog Try.f42 (stOf 37 g [(4, v), (5, u)] O) = some (.tuple #[v, u]) := by kernel_rfl
section
variable (o : Blk) (n c : Nat) (id : Int) (ws us : List ViewV) (k : Nat) (i : Nat) (x : ViewV) (g : Nat → Value)
abbrev A42 (s : Value) (g : Nat → Value) : St := stOf 37 g [(0, s), (1, .int .i64 id)] [o]
abbrev N42' (s : Value) (g : Nat → Value) : St := stOf 37 g [(0, s), (1, .int .i64 id), (6, nilS)] [o]
abbrev N42 (s : Value) (i : Nat) (g : Nat → Value) : St := stOf 37 g [(0, s), (1, .int .i64 id), (6, nilS), (7, iN i)] [o]
abbrev R42' (s : Value) (k : Nat) (g : Nat → Value) : St := stOf 37 g [(0, s), (1, .int .i64 id), (6, newS 1 k)] [o, rowB ws]
abbrev R42 (s : Value) (k : Nat) (i : Nat) (g : Nat → Value) : St := stOf 37 g [(0, s), (1, .int .i64 id), (6, newS 1 k), (7, iN i)] [o, rowB ws]
def hA42 (o : Blk) : Hp := heapOf ([o] ++ [.dead]) hp0
theorem r42a : (execE Try.prog c40 [] [] [] 10 c42a ⟨tmsOf [rowS 0 n c, .int .i64 id] 0 .leaf, heapOf [o, .dead] hp0, []⟩).map (fun z => (look2 1 [0] [0, 1] (z.1, z.2.1), z.2.2)) = some ((.normal, [o], [(0, rowS 0 n c), (1, .int .i64 id)], true), [], [], []) := by kernel_rfl
theorem r42an : (execE Try.prog c40 [] [] [] 10 c42a ⟨tmsOf [nilS, .int .i64 id] 0 .leaf, heapOf [.dead] hp0, []⟩).map (fun z => (look2 1 [0] [0, 1] (z.1, z.2.1), z.2.2)) = some ((.normal, [.dead], [(0, nilS), (1, .int .i64 id)], true), [], [], []) := by kernel_rfl
theorem r42b (s : Value) : (execE Try.prog c40 [] [(9, .bool false, [.dead])] [] 10 c42b (A42 o id s g)).map (fun z => (look2 0 [] [4, 5] (z.1, z.2.1), z.2.2)) =
    some ((.ret, [], [(4, nilS), (5, iN 1)], true), [], [(c40 43 [s] (hA42 o), (.bool false, heapOf [.dead] (hA42 o)))], []) := by kernel_rfl
theorem r42b' : (execE Try.prog c40 [] [(9, .bool true, [.dead])] [] 10 c42b (A42 o id (rowS 0 n c) g)).map (fun z => (look2 1 [0] [0, 1] (z.1, z.2.1), z.2.2)) =
    some ((.normal, [o], [(0, rowS 0 n c), (1, .int .i64 id)], true), [], [(c40 43 [rowS 0 n c] (hA42 o), (.bool true, heapOf [.dead] (hA42 o)))], []) := by kernel_rfl
theorem r42bn : (execE Try.prog c40 [] [(9, .bool true, [.dead])] [] 10 c42b (A42 o id nilS g)).map (fun z => (look2 1 [0] [0, 1] (z.1, z.2.1), z.2.2)) =
    some ((.normal, [o], [(0, nilS), (1, .int .i64 id)], true), [], [(c40 43 [nilS] (hA42 o), (.bool true, heapOf [.dead] (hA42 o)))], []) := by kernel_rfl
theorem r42c : (execE Try.prog c40 [] [] [] 10 c42c (A42 o id (rowS 0 n c) g)).map (fun z => (look2 1 [0] [0, 1, 6] (z.1, z.2.1), z.2.2)) = some ((.normal, [o], [(0, rowS 0 n c), (1, .int .i64 id), (6, nilS)], true), [], [], []) := by kernel_rfl
theorem r42cn : (execE Try.prog c40 [] [] [] 10 c42c (A42 o id nilS g)).map (fun z => (look2 1 [0] [0, 1, 6] (z.1, z.2.1), z.2.2)) = some ((.normal, [o], [(0, nilS), (1, .int .i64 id), (6, nilS)], true), [], [], []) := by kernel_rfl
theorem r42d : (execE Try.prog c40 [] [] [] 10 c42d (N42' o id (rowS 0 n c) g)).map (fun z => (look2 1 [0] [0, 1, 6, 7] (z.1, z.2.1), z.2.2)) = some ((.normal, [o], [(0, rowS 0 n c), (1, .int .i64 id), (6, nilS), (7, iN 0)], true), [], [], []) := by kernel_rfl
theorem r42dn : (execE Try.prog c40 [] [] [] 10 c42d (N42' o id nilS g)).map (fun z => (look2 1 [0] [0, 1, 6, 7] (z.1, z.2.1), z.2.2)) = some ((.normal, [o], [(0, nilS), (1, .int .i64 id), (6, nilS), (7, iN 0)], true), [], [], []) := by kernel_rfl
theorem n42x : (execE Try.prog c40 [(14, .bool false)] [] [] 20 c42e (N42 o id (rowS 0 n c) i g)).map (fun z => (look2 1 [0] [0, 1, 6] (z.1, z.2.1), z.2.2)) = some ((.exit 0, [o], [(0, rowS 0 n c), (1, .int .i64 id), (6, nilS)], true), [lt40 n i false], [], []) := by kernel_rfl
theorem n42xn : (execE Try.prog c40 [] [] [] 20 c42e (N42 o id nilS 0 g)).map (fun z => (look2 1 [0] [0, 1, 6] (z.1, z.2.1), z.2.2)) = some ((.exit 0, [o], [(0, nilS), (1, .int .i64 id), (6, nilS)], true), [], [], []) := by kernel_rfl
theorem r42x : (execE Try.prog c40 [(14, .bool false)] [] [] 20 c42e (R42 o id ws (rowS 0 n c) k i g)).map (fun z => (look2 2 [0, 1] [0, 1, 6] (z.1, z.2.1), z.2.2)) = some ((.exit 0, [o, rowB ws], [(0, rowS 0 n c), (1, .int .i64 id), (6, newS 1 k)], true), [lt40 n i false], [], []) := by kernel_rfl
noncomputable def u2o (h : Hp) (b : Bool) : List Obl := [ixO 0 n c i, ldO h.get 3 0 (i * 7) (.int .i64 x.id), (some (.bool (x.id != id)), .bool b)]
def u2c (b : Bool) : List (Tmp × Value) := [(19, pb 0 (i * 7)), (21, .int .i64 x.id), (23, .bool b)]
def u3c : List (Tmp × Value) := [(27, pb 0 (i * 7)), (28, .agg ⟨vc x⟩)]
def hR42 (o : Blk) (ws : List ViewV) : Hp := heapOf ([o, rowB ws] ++ [.dead]) hp0
theorem n42A : (execE Try.prog c40 ([(14, .bool true)] ++ u2c i x true ++ u3c i x ++ [(16, iN (i + 1))]) [] [] 20 c42e (N42 o id (rowS 0 n c) i g)).map (fun z => (look2 2 [0, 3] [0, 1, 6, 7] (z.1, z.2.1), z.2.2)) =
    some ((.normal, [o, rowB [x]], [(0, rowS 0 n c), (1, .int .i64 id), (6, newS 1 1), (7, iN (i + 1))], true), [lt40 n i true] ++ (u2o n c id i x (hA42 o) true ++ (t3o n c i x (hA42 o) ++ [nxt29 i])), [], []) := by kernel_rfl
theorem n42B : (execE Try.prog c40 ([(14, .bool true)] ++ u2c i x false ++ [(16, iN (i + 1))]) [] [] 20 c42e (N42 o id (rowS 0 n c) i g)).map (fun z => (look2 1 [0] [0, 1, 6, 7] (z.1, z.2.1), z.2.2)) =
    some ((.normal, [o], [(0, rowS 0 n c), (1, .int .i64 id), (6, nilS), (7, iN (i + 1))], true), [lt40 n i true] ++ (u2o n c id i x (hA42 o) false ++ [nxt29 i]), [], []) := by kernel_rfl
theorem r42A : (execE Try.prog c40 ([(14, .bool true)] ++ u2c i x true ++ u3c i x ++ [(16, iN (i + 1))]) [] [(30, newS 4 (k + 1), [.put 1 .dead, .push (rowB us)])] 20 c42e (R42 o id ws (rowS 0 n c) k i g)).map (fun z => (look2 2 [0, 4] [0, 1, 6, 7] (z.1, z.2.1), z.2.2)) =
    some ((.normal, [o, rowB us], [(0, rowS 0 n c), (1, .int .i64 id), (6, newS 1 (k + 1)), (7, iN (i + 1))], true), [lt40 n i true] ++ (u2o n c id i x (hR42 o ws) true ++ (t3o n c i x (hR42 o ws) ++ [nxt29 i])), [], [apR ((hR42 o ws).push (vB x)) 4 1 k 3 us]) := by kernel_rfl
theorem r42B : (execE Try.prog c40 ([(14, .bool true)] ++ u2c i x false ++ [(16, iN (i + 1))]) [] [] 20 c42e (R42 o id ws (rowS 0 n c) k i g)).map (fun z => (look2 2 [0, 1] [0, 1, 6, 7] (z.1, z.2.1), z.2.2)) =
    some ((.normal, [o, rowB ws], [(0, rowS 0 n c), (1, .int .i64 id), (6, newS 1 k), (7, iN (i + 1))], true), [lt40 n i true] ++ (u2o n c id i x (hR42 o ws) false ++ [nxt29 i]), [], []) := by kernel_rfl
theorem n42g : (execE Try.prog c40 [] [] [] 20 c42g (N42' o id nilS g)).map (fun z => (look2 0 [] [4, 5] (z.1, z.2.1), z.2.2)) = some ((.ret, [], [(4, nilS), (5, iN 7)], true), [], [], []) := by kernel_rfl
theorem n42h : (execE Try.prog c40 [(35, .bool true)] [] [] 20 c42g (N42' o id (rowS 0 n c) g)).map (fun z => (look2 0 [] [4, 5] (z.1, z.2.1), z.2.2)) = some ((.ret, [], [(4, nilS), (5, iN 7)], true), [(some (.bool (Int.ofNat 0 == Int.ofNat n)), .bool true)], [], []) := by kernel_rfl
theorem n42i : (execE Try.prog c40 [(35, .bool false)] [] [] 20 c42g (N42' o id (rowS 0 n c) g)).map (fun z => (look2 0 [] [4, 5] (z.1, z.2.1), z.2.2)) = some ((.ret, [], [(4, nilS), (5, iN 0)], true), [(some (.bool (Int.ofNat 0 == Int.ofNat n)), .bool false)], [], []) := by kernel_rfl
theorem r42h : (execE Try.prog c40 [(35, .bool true)] [] [] 20 c42g (R42' o id ws (rowS 0 n c) k g)).map (fun z => (look2 0 [] [4, 5] (z.1, z.2.1), z.2.2)) = some ((.ret, [], [(4, nilS), (5, iN 7)], true), [(some (.bool (Int.ofNat k == Int.ofNat n)), .bool true)], [], []) := by kernel_rfl
theorem r42i : (execE Try.prog c40 [(35, .bool false)] [] [] 20 c42g (R42' o id ws (rowS 0 n c) k g)).map (fun z => (look2 1 [1] [4, 5] (z.1, z.2.1), z.2.2)) = some ((.ret, [rowB ws], [(4, newS 0 k), (5, iN 0)], true), [(some (.bool (Int.ofNat k == Int.ofNat n)), .bool false)], [], []) := by kernel_rfl
end
def notId (id : Int) (x : ViewV) : Bool := x.id != id
/-- Without a node's view. -/
def filV (vs : List ViewV) (id : Int) : List ViewV := vs.filter (notId id)
def drC (vs : List ViewV) (id : Int) : Nat := bif rightB vs then (bif (Int.ofNat (filV vs id).length == Int.ofNat vs.length) then 7 else 0) else 1
def drL (vs : List ViewV) (id : Int) : List ViewV := bif rightB vs && !(Int.ofNat (filV vs id).length == Int.ofNat vs.length) then filV vs id else []
def EndsU (vs : List ViewV) (id : Int) (e : Exit) (st : St) : Prop := e = .ret ∧ ∃ g, st = stOf 37 g [(4, rowV (drL vs id) 0), (5, iN (drC vs id))] (rowO (drL vs id))
section
variable (o : Blk) (id : Int) (s : Value)
def S42 (us : List ViewV) (i : Nat) (g : Nat → Value) : St := match us with
  | [] => N42 o id s i g
  | _ :: _ => R42 o id us s us.length i g
def S42' (us : List ViewV) (g : Nat → Value) : St := match us with
  | [] => N42' o id s g
  | _ :: _ => R42' o id us s us.length g
end
theorem S42_ne {o : Blk} {id : Int} {s : Value} {us : List ViewV} {i : Nat} {g : Nat → Value} (h : us ≠ []) : S42 o id s us i g = R42 o id us s us.length i g := by
  cases us with
  | nil => exact absurd rfl h
  | cons => rfl
theorem filV_step {vs : List ViewV} {id : Int} {i : Nat} {x : ViewV} (h : vs[i]? = some x) : filV (vs.take (i + 1)) id = filV (vs.take i) id ++ (bif notId id x then [x] else []) := by
  rw [List.take_add_one, h]
  unfold filV
  rw [List.filter_append]
  cases e : notId id x <;> simp [e]
theorem droploop_fr (o : Blk) (ho : inertB o = true) (vs : List ViewV) (hn : vs.length < 1000000) (hrow : vs = [] ∨ ∃ ty ro, o = .cells ty (vrow vs) ro) (c : Nat) (id : Int) (W : Base) (g : Nat → Value) :
    FRwp Try.prog 37 W (.block 0 (.loop c42e)) (N42 o id (rowS 0 vs.length c) 0 g) (fun e st => e = .normal ∧ ∃ g, st = S42' o id (rowS 0 vs.length c) (filV vs id) g) := by
  refine FRwp.block ?_
  refine FRwp.loop (fun k st => ∃ i g, i ≤ vs.length ∧ k = vs.length - i ∧ st = S42 o id (rowS 0 vs.length c) (filV (vs.take i) id) i g) ?_ (k := vs.length) ⟨0, g, Nat.zero_le _, rfl, rfl⟩
  rintro k st ⟨i, g, hi, hk, rfl⟩
  have hfl : (filV (vs.take i) id).length ≤ i := by
    unfold filV
    have := List.length_filter_le (notId id) (vs.take i)
    rw [List.length_take] at this
    omega
  cases h14 : decide (Int.ofNat i < Int.ofNat vs.length) with
  | false =>
    have hii : i = vs.length := by simp at h14; omega
    subst hii
    rw [List.take_length] at hfl ⊢
    generalize filV vs id = us at *
    cases us with
    | nil =>
      refine FRwp.pieceY c40_ok follows 1 _ _ _ _ (n42x o vs.length c id vs.length g) (Met.cons (met_bool h14) Met.nil) MetH.nil MetE.nil s42e rfl rfl (fix11 ho _) fun g' => .inr ⟨by simp, ?_⟩
      show (if (0 : Nat) = 0 then _ else _)
      rw [if_pos rfl]
      exact ⟨rfl, g', rfl⟩
    | cons w ws =>
      refine FRwp.pieceY c40_ok follows 2 _ _ _ _ (r42x o vs.length c id (w :: ws) (w :: ws).length vs.length g) (Met.cons (met_bool h14) Met.nil) MetH.nil MetE.nil s42e rfl rfl (fix21 ho _ _) fun g' => .inr ⟨by simp, ?_⟩
      show (if (0 : Nat) = 0 then _ else _)
      rw [if_pos rfl]
      exact ⟨rfl, g', rfl⟩
  | true =>
    have hlt : i < vs.length := by simpa using h14
    obtain ⟨x, hx⟩ : ∃ x, vs[i]? = some x := ⟨_, List.getElem?_eq_getElem hlt⟩
    have hr : ∃ ty ro, o = .cells ty (vrow vs) ro := by
      rcases hrow with h | h
      · rw [h] at hlt; simp at hlt
      · exact h
    have hs := filV_step (id := id) hx
    have hlt' : Met [lt40 vs.length i true] := Met.cons (met_bool h14) Met.nil
    have hnx : Met [nxt29 i] := Met.cons (wrap_up (by omega)) Met.nil
    have u2 : ∀ {h : Hp} {b : Bool}, RowAt h 0 vs → notId id x = b → Met (u2o vs.length c id i x h b) := fun hat hb => Met.cons (vidx_ok hlt) (Met.cons (vcell_ok hat hx) (Met.cons (met_bool hb) Met.nil))
    cases hne : notId id x with
    | true =>
      rw [hne] at hs
      simp only [cond_true] at hs
      have fin : ∀ {us' : List ViewV} {g' : Nat → Value} {st' : St}, us' = filV (vs.take i) id ++ [x] → st' = R42 o id us' (rowS 0 vs.length c) us'.length (i + 1) g' → ∃ k', k' < k ∧ ∃ i g, i ≤ vs.length ∧ k' = vs.length - i ∧ st' = S42 o id (rowS 0 vs.length c) (filV (vs.take i) id) i g := by
        intro us' g' st' h1 h2
        refine ⟨vs.length - (i + 1), by omega, i + 1, g', by omega, rfl, ?_⟩
        rw [hs, ← h1, S42_ne (by rw [h1]; simp), h2]
      generalize filV (vs.take i) id = us at *
      cases us with
      | nil =>
        have a0 : RowAt (hA42 o) 0 vs := rowAt0 hr
        exact FRwp.pieceY c40_ok follows 2 _ _ _ _ (n42A o vs.length c id i x g) (met_app hlt' (met_app (u2 a0 hne) (met_app (t3_ok a0 hx hlt) hnx))) MetH.nil MetE.nil s42e rfl rfl (fix21 ho _ _) fun g' => .inl ⟨rfl, fin (us' := [x]) rfl rfl⟩
      | cons w ws =>
        generalize w :: ws = us at *
        cases us with
        | nil =>
          have a0 : RowAt (hA42 o) 0 vs := rowAt0 hr
          exact FRwp.pieceY c40_ok follows 2 _ _ _ _ (n42A o vs.length c id i x g) (met_app hlt' (met_app (u2 a0 hne) (met_app (t3_ok a0 hx hlt) hnx))) MetH.nil MetE.nil s42e rfl rfl (fix21 ho _ _) fun g' => .inl ⟨rfl, fin (us' := [x]) rfl rfl⟩
        | cons w ws =>
          have b0 : RowAt (hR42 o (w :: ws)) 0 vs := rowAt0 hr
          have e1 : ((w :: ws) ++ [x]).length = (w :: ws).length + 1 := by simp
          refine FRwp.pieceY c40_ok follows 2 _ _ _ _ (r42A o vs.length c id (w :: ws) ((w :: ws) ++ [x]) (w :: ws).length i x g) (met_app hlt' (met_app (u2 b0 hne) (met_app (t3_ok b0 hx hlt) hnx))) MetH.nil (MetE.cons (app_one ?_ ?_ rfl (by omega)) MetE.nil) s42e rfl rfl (fix21 ho _ _) fun g' => .inl ⟨rfl, fin (us' := (w :: ws) ++ [x]) rfl (by rw [e1])⟩
          · rw [Hp.get_push, if_neg (by show (1 : Nat) ≠ 3; omega)]; unfold hR42; rw [heapOf0_get]; rfl
          · rw [Hp.get_push, if_pos (by show (3 : Nat) = 3; rfl)]; rfl
    | false =>
      rw [hne] at hs
      simp only [cond_false, List.append_nil] at hs
      generalize hus : filV (vs.take i) id = us at *
      cases us with
      | nil =>
        have a0 : RowAt (hA42 o) 0 vs := rowAt0 hr
        exact FRwp.pieceY c40_ok follows 1 _ _ _ _ (n42B o vs.length c id i x g) (met_app hlt' (met_app (u2 a0 hne) hnx)) MetH.nil MetE.nil s42e rfl rfl (fix11 ho _) fun g' => .inl ⟨rfl, vs.length - (i + 1), by omega, i + 1, g', by omega, rfl, by rw [hs]; rfl⟩
      | cons w ws =>
        have b0 : RowAt (hR42 o (w :: ws)) 0 vs := rowAt0 hr
        exact FRwp.pieceY c40_ok follows 2 _ _ _ _ (r42B o vs.length c id (w :: ws) (w :: ws).length i x g) (met_app hlt' (met_app (u2 b0 hne) hnx)) MetH.nil MetE.nil s42e rfl rfl (fix21 ho _ _) fun g' => .inl ⟨rfl, vs.length - (i + 1), by omega, i + 1, g', by omega, rfl, by rw [hs]; rfl⟩
theorem rdrop_fr (o : Blk) (ho : inertB o = true) (vs : List ViewV) (hn : vs.length < 1000000) (hrow : vs = [] ∨ ∃ ty ro, o = .cells ty (vrow vs) ro) (c : Nat) (id : Int) (W : Base) :
    FRwp Try.prog 37 W code42 ⟨tmsOf [rowS 0 vs.length c, .int .i64 id] 0 .leaf, heapOf [o, .dead] hp0, []⟩ (EndsU vs id) := by
  refine FRwp.seq (Q1 := fun x st => x = .normal ∧ ∃ g, st = A42 o id (rowS 0 vs.length c) g) (FRwp.pieceY c40_ok follows 1 _ _ _ _ (r42a o vs.length c id) Met.nil MetH.nil MetE.nil s42a rfl rfl (fix11 ho _) fun g => ⟨rfl, g, rfl⟩) ?_ (fun x st hne hq => absurd hq.1 hne)
  rintro st ⟨-, g, rfl⟩
  have a1 := c40_43 (hp := hA42 o) (.inr ⟨0, c, o, rfl, by unfold hA42; rw [heapOf0_get]; rfl, ho, hrow⟩ : TN vs (rowS 0 vs.length c) (hA42 o)) hn
  cases hr : rightB vs with
  | false =>
    rw [hr] at a1
    refine FRwp.seq (Q1 := fun x st => EndsU vs id x st) (FRwp.pieceY c40_ok follows 0 _ _ _ _ (r42b o id g (rowS 0 vs.length c)) Met.nil (MetH.cons a1 MetH.nil) MetE.nil s42b rfl rfl (noFix _) fun g' => ⟨rfl, g', ?_⟩) (fun st hq => by cases hq.1) (fun x st hne hq => hq)
    unfold drL drC; rw [hr]; rfl
  | true =>
    rw [hr] at a1
    refine FRwp.seq (Q1 := fun x st => x = .normal ∧ ∃ g, st = A42 o id (rowS 0 vs.length c) g) (FRwp.pieceY c40_ok follows 1 _ _ _ _ (r42b' o vs.length c id g) Met.nil (MetH.cons a1 MetH.nil) MetE.nil s42b rfl rfl (fix11 ho _) fun g => ⟨rfl, g, rfl⟩) ?_ (fun x st hne hq => absurd hq.1 hne)
    rintro st ⟨-, g, rfl⟩
    refine FRwp.seq (Q1 := fun x st => x = .normal ∧ ∃ g, st = N42' o id (rowS 0 vs.length c) g) (FRwp.pieceY c40_ok follows 1 _ _ _ _ (r42c o vs.length c id g) Met.nil MetH.nil MetE.nil s42c rfl rfl (fix11 ho _) fun g => ⟨rfl, g, rfl⟩) ?_ (fun x st hne hq => absurd hq.1 hne)
    rintro st ⟨-, g, rfl⟩
    refine FRwp.seq (Q1 := fun x st => x = .normal ∧ ∃ g, st = S42' o id (rowS 0 vs.length c) (filV vs id) g) ?_ ?_ (fun x st hne hq => absurd hq.1 hne)
    · refine FRwp.seq (Q1 := fun x st => x = .normal ∧ ∃ g, st = N42 o id (rowS 0 vs.length c) 0 g) (FRwp.pieceY c40_ok follows 1 _ _ _ _ (r42d o vs.length c id g) Met.nil MetH.nil MetE.nil s42d rfl rfl (fix11 ho _) fun g => ⟨rfl, g, rfl⟩) ?_ (fun x st hne hq => absurd hq.1 hne)
      rintro st ⟨-, g, rfl⟩
      exact droploop_fr o ho vs hn hrow c id W g
    · rintro st ⟨-, g, rfl⟩
      have eL : ∀ b, (Int.ofNat (filV vs id).length == Int.ofNat vs.length) = b → drL vs id = (bif b then [] else filV vs id) ∧ drC vs id = (bif b then 7 else 0) := fun b hb => by
        unfold drL drC
        rw [hr, hb]
        cases b <;> exact ⟨rfl, rfl⟩
      cases hb : (Int.ofNat (filV vs id).length == Int.ofNat vs.length) with
      | true =>
        obtain ⟨e1, e2⟩ := eL _ hb
        rw [show EndsU vs id = fun e st => e = .ret ∧ ∃ g, st = stOf 37 g [(4, rowV (drL vs id) 0), (5, iN (drC vs id))] (rowO (drL vs id)) from rfl, e1, e2]
        generalize filV vs id = us at *
        cases us with
        | nil => exact FRwp.pieceY c40_ok follows 0 _ _ _ _ (n42h o vs.length c id g) (Met.cons (met_bool hb) Met.nil) MetH.nil MetE.nil s42g rfl rfl (noFix _) fun g' => ⟨rfl, g', rfl⟩
        | cons w ws => exact FRwp.pieceY c40_ok follows 0 _ _ _ _ (r42h o vs.length c id (w :: ws) (w :: ws).length g) (Met.cons (met_bool hb) Met.nil) MetH.nil MetE.nil s42g rfl rfl (noFix _) fun g' => ⟨rfl, g', rfl⟩
      | false =>
        obtain ⟨e1, e2⟩ := eL _ hb
        rw [show EndsU vs id = fun e st => e = .ret ∧ ∃ g, st = stOf 37 g [(4, rowV (drL vs id) 0), (5, iN (drC vs id))] (rowO (drL vs id)) from rfl, e1, e2]
        generalize filV vs id = us at *
        cases us with
        | nil => exact FRwp.pieceY c40_ok follows 0 _ _ _ _ (n42i o vs.length c id g) (Met.cons (met_bool hb) Met.nil) MetH.nil MetE.nil s42g rfl rfl (noFix _) fun g' => ⟨rfl, g', rfl⟩
        | cons w ws => exact FRwp.pieceY c40_ok follows 1 _ _ _ _ (r42i o vs.length c id (w :: ws) (w :: ws).length g) (Met.cons (met_bool hb) Met.nil) MetH.nil MetE.nil s42g rfl rfl (fix1 _ []) fun g' => ⟨rfl, g', rfl⟩
theorem rdrop_nil (id : Int) (W : Base) : FRwp Try.prog 37 W code42 ⟨tmsOf [nilS, .int .i64 id] 0 .leaf, heapOf [.dead] hp0, []⟩ (EndsU [] id) := by
  have ho : inertB (.dead) = true := rfl
  refine FRwp.seq (Q1 := fun x st => x = .normal ∧ ∃ g, st = A42 .dead id nilS g) (FRwp.pieceY c40_ok follows 1 _ _ _ _ (r42an id) Met.nil MetH.nil MetE.nil s42a rfl rfl (fix11 ho _) fun g => ⟨rfl, g, rfl⟩) ?_ (fun x st hne hq => absurd hq.1 hne)
  rintro st ⟨-, g, rfl⟩
  have a1 := c40_43 (vs := []) (hp := hA42 .dead) (.inl ⟨rfl, rfl⟩) (by simp)
  refine FRwp.seq (Q1 := fun x st => x = .normal ∧ ∃ g, st = A42 .dead id nilS g) (FRwp.pieceY c40_ok follows 1 _ _ _ _ (r42bn .dead id g) Met.nil (MetH.cons a1 MetH.nil) MetE.nil s42b rfl rfl (fix11 ho _) fun g => ⟨rfl, g, rfl⟩) ?_ (fun x st hne hq => absurd hq.1 hne)
  rintro st ⟨-, g, rfl⟩
  refine FRwp.seq (Q1 := fun x st => x = .normal ∧ ∃ g, st = N42' .dead id nilS g) (FRwp.pieceY c40_ok follows 1 _ _ _ _ (r42cn .dead id g) Met.nil MetH.nil MetE.nil s42c rfl rfl (fix11 ho _) fun g => ⟨rfl, g, rfl⟩) ?_ (fun x st hne hq => absurd hq.1 hne)
  rintro st ⟨-, g, rfl⟩
  refine FRwp.seq (Q1 := fun x st => x = .normal ∧ ∃ g, st = N42' .dead id nilS g) ?_ ?_ (fun x st hne hq => absurd hq.1 hne)
  · refine FRwp.seq (Q1 := fun x st => x = .normal ∧ ∃ g, st = N42 .dead id nilS 0 g) (FRwp.pieceY c40_ok follows 1 _ _ _ _ (r42dn .dead id g) Met.nil MetH.nil MetE.nil s42d rfl rfl (fix11 ho _) fun g => ⟨rfl, g, rfl⟩) ?_ (fun x st hne hq => absurd hq.1 hne)
    rintro st ⟨-, g, rfl⟩
    refine FRwp.block ?_
    refine FRwp.loop (fun k st => ∃ g, st = N42 .dead id nilS 0 g) ?_ (k := 0) ⟨g, rfl⟩
    rintro k st ⟨g, rfl⟩
    refine FRwp.pieceY c40_ok follows 1 _ _ _ _ (n42xn .dead id g) Met.nil MetH.nil MetE.nil s42e rfl rfl (fix11 ho _) fun g' => .inr ⟨by simp, ?_⟩
    show (if (0 : Nat) = 0 then _ else _)
    rw [if_pos rfl]
    exact ⟨rfl, g', rfl⟩
  · rintro st ⟨-, g, rfl⟩
    exact FRwp.pieceY c40_ok follows 0 _ _ _ _ (n42g .dead id g) Met.nil MetH.nil MetE.nil s42g rfl rfl (noFix _) fun g' => ⟨rfl, g', rfl⟩
open Classical in
noncomputable def g42 (vs : List ViewV) : HeapFn := fun args hp => match args with
  | [s, .int .i64 id] => if TN vs s hp then some (.tuple #[rowV (drL vs id) hp.sz, iN (drC vs id)], heapOf (rowO (drL vs id) ++ [.dead]) hp) else none
  | _ => none
theorem hk42 (vs : List ViewV) (hn : vs.length < 1000000) : CallGoal Try.prog 42 (g42 vs) := scan_goal follows Try.func42 body42 (by kernel_rfl) fun args hp v hp' h hk => by
  unfold g42 at h
  rw [ntmps42]
  split at h
  case h_2 => cases h
  rename_i s id
  split at h
  case isFalse => cases h
  rename_i hT
  cases h
  have run : ∃ (K0 : List Nat), nodupB K0 = true ∧ (∀ b ∈ K0, ∃ o, hp.get b = some o ∧ startOk o = true) ∧ ([s, .int .i64 id]).all ok3 = true ∧ ∀ W, FRwp Try.prog 37 W code42 ⟨tmsOf ([s, .int .i64 id].map (sh3 K0 0)) 0 .leaf, startHp K0 hp, []⟩ (EndsU vs id) := by
    rcases hT with ⟨rfl, rfl⟩ | ⟨b, c, ob, rfl, hb, hi, hr⟩
    · refine ⟨[], rfl, (fun b hb => by cases hb), rfl, fun W => ?_⟩
      have e1 : [nilS, .int .i64 id].map (sh3 [] 0) = [nilS, .int .i64 id] := by simp [sh3, sh2, sh1, nilS]
      rw [e1]
      exact rdrop_nil id W
    · refine ⟨[b], rfl, fun b' hb' => ?_, rfl, fun W => ?_⟩
      · have : b' = b := by simpa using hb'
        subst this
        exact ⟨ob, hb, inert_start hi⟩
      · have e1 : [rowS b vs.length c, .int .i64 id].map (sh3 [b] 0) = [rowS 0 vs.length c, .int .i64 id] := by simp [sh3, sh2, sh1, rho, idxOf, rowS]
        rw [e1, start1 hb hi]
        exact rdrop_fr (roBlk ob) (ro_inert hi) vs hn (ro_row hr) c id W
  obtain ⟨K0, n0, hst, hall, hrun⟩ := run
  unfold EndsU at hrun
  generalize drL vs id = us at *
  cases us with
  | nil =>
    refine ⟨K0, [], [], rfl, rfl, n0, rfl, hst, hall, (by simp), fun W => FRwp.mono (hrun W) fun e st q => ?_⟩
    obtain ⟨rfl, g, rfl⟩ := q
    exact ⟨.inr rfl, rfl, _, q42 _ _ _ g, rfl, (fun b hb => by cases hb), by simp [sh3, sh2, sh1, rowV, nilS, iN], rfl⟩
  | cons w ws =>
    refine ⟨K0, [0], [rowB (w :: ws)], rfl, rfl, n0, rfl, hst, hall, (by simp), fun W => FRwp.mono (hrun W) fun e st q => ?_⟩
    obtain ⟨rfl, g, rfl⟩ := q
    have hg := row_fin (N := 37) (us := w :: ws) (v := nilS) (t := 0) (L := [(4, rowV (w :: ws) 0), (5, iN (drC vs id))]) (g := g)
    refine ⟨.inr rfl, rfl, _, q42 _ _ _ g, rfl, fun b' hb' => ?_, by simp [sh3, sh2, sh1, rho, idxOf, rowV, newS, rowS, iN], out_row hg⟩
    have : b' = 0 := by simpa using hb'
    subst this
    exact ⟨_, hg, ok2_inert (row_block _), rfl⟩
noncomputable def G42 : HeapFn := atRow (fun _ => True) g42
theorem hkG42 : CallGoal Try.prog 42 G42 := atRow_goal fun vs hn _ => hk42 vs hn
open Classical in
theorem G42_of {vs : List ViewV} {s : Value} {hp : Hp} {id : Int} (h : TN vs s hp) (hn : vs.length < 1000000) : G42 [s, .int .i64 id] hp = some (.tuple #[rowV (drL vs id) hp.sz, iN (drC vs id)], heapOf (rowO (drL vs id) ++ [.dead]) hp) := by
  unfold G42
  rw [atRow_of h hn trivial]
  show (if TN vs s hp then _ else _) = _
  rw [if_pos h]
/-- What is dropped, by the document's answer. -/
theorem drop_eq {vs : List ViewV} {id : Int} (h : rightB vs = true) : (Int.ofNat (filV vs id).length == Int.ofNat vs.length) = !fnd vs id ∧ (fnd vs id = true → filV vs id = dropV vs id) := by
  have hu := (right_iff.1 h).2
  cases hf : fnd vs id with
  | false =>
    refine ⟨?_, fun h => by cases h⟩
    have : filV vs id = vs := List.filter_eq_self.2 fun x hx => by
      unfold notId
      cases e : (x.id != id) with
      | true => rfl
      | false =>
        have hid : x.id = id := by simpa using e
        have := (fnd_mem hu hx).1
        rw [hid, hf] at this; cases this
    rw [this]; simp
  | true =>
    obtain ⟨x, hx, hid⟩ := fnd_some hf
    have hm : x ∈ vs := List.mem_of_getElem? hx
    have e : filV vs id = dropV vs id := by
      refine up_ext (hu.filter _) (dropV_up hu) fun z => ?_
      have := mem_dropV (z := z) hu hm
      rw [hid] at this
      rw [this]; unfold filV; rw [List.mem_filter]
      simp [notId]
    refine ⟨?_, fun _ => e⟩
    rw [e, dropV_len hf]
    have hlt := (List.getElem?_eq_some_iff.1 hx).1
    simp; omega
end Go.Proofs.Ytiogdklmhpllfaa.LtA
namespace Go.Proofs.Ytiogdklmhpllfaa.LtA
open Go Go.Proofs Go.Proofs.Ytiogdklmhpllfaa.AI Go.RowKit

/-! ### Told functions that lay two blocks always -/
/-- Of one or two blocks laid, two. -/
def padF (k : HeapFn) : HeapFn := fun args hp => match k args hp with
  | some (v, hp1) => if hp1.sz = hp.sz + 1 then some (v, heapOf [.dead] hp1) else some (v, hp1)
  | none => none
theorem pad_goal {P : Program} {f : FuncId} {k : HeapFn} (hg : CallGoal P f k) : CallGoal P f (padF k) := by
  intro args hp v hp2 he hk
  unfold padF at he
  split at he
  case h_2 => cases he
  rename_i v1 hp1 h1
  split at he
  case isFalse => cases he; exact hg args hp v hp2 h1 hk
  cases he
  obtain ⟨hk1, hle, hgo⟩ := hg args hp v hp1 h1 hk
  have hsz : (heapOf [.dead] hp1).sz = hp1.sz + 1 := rfl
  refine ⟨heapOf_ok _ _ hk1, by rw [hsz]; omega, fun m h w args' hfr s ra => ?_⟩
  have step : ∀ v' w', (∃ m', Go1 m (ovr hp h) w m' (ovr hp1 h) w' ∧ VRel m' (ovr hp1 h) v v') → ∃ m', Go1 m (ovr hp h) w m' (ovr (heapOf [.dead] hp1) h) w' ∧ VRel m' (ovr (heapOf [.dead] hp1) h) v v' := ?_
  · rcases hgo m h w args' (fun b a c => hfr b a (by rw [hsz]; omega)) s ra with ⟨v', w', q1, q2⟩ | ⟨q1, q2⟩
    · exact .inl ⟨v', w', q1, step v' w' q2⟩
    · exact .inr ⟨q1, q2.mono fun e w' hh => by
        obtain ⟨v', h1, h2⟩ := hh
        exact ⟨v', h1, step v' w' h2⟩⟩
  rintro v' w' ⟨m', go, rv⟩
  have hnew : h hp1.sz = none := hfr hp1.sz hle (by rw [hsz]; omega)
  have hov : ∀ b, ovr (heapOf [.dead] hp1) h b = if b = hp1.sz then some .dead else ovr hp1 h b := by
    intro b
    unfold ovr
    rw [hsz]
    by_cases h1 : b < hp1.sz
    · rw [if_pos (by omega), if_neg (by omega), if_pos h1, heapOf_get, if_pos h1]
    · by_cases h2 : b = hp1.sz
      · subst h2
        rw [if_pos (by omega), if_pos rfl, heapOf_get, if_neg h1, Nat.sub_self]; rfl
      · rw [if_neg (by omega), if_neg h2, if_neg h1]
  have hnone : ovr hp1 h hp1.sz = none := by
    unfold ovr
    rw [if_neg (by omega)]; exact hnew
  have hmn : m' hp1.sz = none := by
    cases e : m' hp1.sz with
    | none => rfl
    | some x => obtain ⟨o, ho, _⟩ := go.sim.dom _ x e; rw [hnone] at ho; cases ho
  have hne : ∀ b x, m' b = some x → b ≠ hp1.sz := fun b x hx e => by subst e; rw [hmn] at hx; cases hx
  have hke : ∀ b o, ovr hp1 h b = some o → b ≠ hp1.sz := fun b o hb e => by subst e; rw [hnone] at hb; cases hb
  have le2 : Le m' (ovr hp1 h) m' (ovr (heapOf [.dead] hp1) h) := ⟨fun b hb => by rw [hov, if_neg (hke b _ hb)]; exact hb, fun b x hx => .inr hx⟩
  have rwS : ∀ b, b ≠ hp1.sz → rw? (ovr (heapOf [.dead] hp1) h) b = rw? (ovr hp1 h) b := fun b hb => by unfold rw?; rw [hov, if_neg hb]
  have lvS : ∀ b, b ≠ hp1.sz → live? (ovr (heapOf [.dead] hp1) h) b = live? (ovr hp1 h) b := fun b hb => by unfold live?; rw [hov, if_neg hb]
  refine ⟨m', ⟨go.le.trans le2, ⟨fun b x hx => ?_, fun b b' x x' hx hx' hr hl e => go.sim.inj b b' x x' hx hx' (by rw [← rwS b (hne b x hx)]; exact hr) (by rw [← lvS b' (hne b' x' hx')]; exact hl) e⟩, go.size, go.new, go.frame, go.un, fun b o hb hm => ?_, fun b o hb => ?_, fun b x hx hr => ?_, go.os, go.tape, go.output⟩, rv.mono le2⟩
  · obtain ⟨o, ho, hbr⟩ := go.sim.dom b x hx
    exact ⟨o, by rw [hov, if_neg (hne b x hx)]; exact ho, hbr.mono le2 rfl⟩
  · have := go.idle b o hb hm
    rw [hov, if_neg (hke b _ this)]; exact this
  · obtain ⟨o', ho'⟩ := go.ex b o hb
    exact ⟨o', by rw [hov, if_neg (hke b _ ho')]; exact ho'⟩
  · have hb1 : b ≠ hp1.sz := by
      intro e
      subst e
      unfold rw? at hr
      rw [hov, if_pos rfl] at hr
      cases hr
    exact go.rwb b x hx (by rw [← rwS b hb1]; exact hr)
theorem pad_two {k : HeapFn} {args : List Value} {hp : Hp} {v : Value} {B : Blk} (h : k args hp = some (v, heapOf [B, .dead] hp)) : padF k args hp = some (v, heapOf [B, .dead] hp) := by
  unfold padF
  rw [h]
  have : (heapOf [B, .dead] hp).sz = hp.sz + 2 := rfl
  simp only [this]
  rw [if_neg (by omega)]
theorem pad_one {k : HeapFn} {args : List Value} {hp : Hp} {v : Value} (h : k args hp = some (v, heapOf [.dead] hp)) : padF k args hp = some (v, heapOf [.dead, .dead] hp) := by
  unfold padF
  rw [h]
  have : (heapOf [Blk.dead] hp).sz = hp.sz + 1 := rfl
  simp only [this]
  rfl
def ownB (vs : List ViewV) : Blk := match vs with
  | [] => .dead
  | _ :: _ => rowB vs
theorem pad_row {k : HeapFn} {args : List Value} {hp : Hp} {v : Value} {us : List ViewV} (h : k args hp = some (v, heapOf (rowO us ++ [.dead]) hp)) : padF k args hp = some (v, heapOf [ownB us, .dead] hp) := by
  cases us with
  | nil => exact pad_one h
  | cons => exact pad_two h

/-! ### The run -/
noncomputable def EL : Ext := extG (extH Try.prog [(26, gAwake12)]) [(34, padF G34), (33, G33), (39, G33), (27, padF G27), (40, padF G40), (41, padF G41), (42, padF G42), (18, G18), (43, G43), (28, gSM)]
theorem EL_ok : ExtOk Try.prog EL := extG_ok (extH_ok (.cons hkA12 .nil)) (.cons (pad_goal hkG34) (.cons hkG33 (.cons hkG39 (.cons (pad_goal hkG27) (.cons (pad_goal hkG40) (.cons (pad_goal hkG41) (.cons (pad_goal hkG42) (.cons hkG18 (.cons hkG43 (.cons hkSM .nil))))))))))
noncomputable def cL : CallF := aCall Try.prog EL 5
theorem cL_ok : CallOk Try.prog cL := aCall_sound EL_ok follows 5
noncomputable def fb10 : Code := (Try.f10.body).getD .skip
theorem body10 : Try.f10.body = some fb10 := by kernel_rfl
theorem ntmps10 : Try.f10.ntmps = 109 := by kernel_rfl
theorem s10 : codeSafe Try.prog 109 fb10 = true := by kernel_rfl
theorem q10 (v : Value) (O : List Blk) (g : Nat → Value) : retVal Try.prog Try.f10 (stOf 109 g [(6, v)] O) = some v := by kernel_rfl
section
variable (o : Blk) (s : Value) (n : Nat) (y a : ViewV) (b rb : Bool) (z : Int) (v1 v2 v3 v4 v5 : Value) (B1 B2 B3 B4 B5 : Blk) (e f : Nat)
abbrev B10 : St := ⟨tmsOf [s, .int .i64 y.id, hcA y] 0 .leaf, heapOf [o, .dead] hp0, []⟩
theorem r10a : (execE Try.prog cL [(22, iN n), (23, .bool true)] [] [] 40 fb10 (B10 o s y)).map (fun w => (look2 0 [] [6] (w.1, w.2.1), w.2.2)) =
    some ((.ret, [], [(6, .bool true)], true), [lenO s n, (some (.bool (decide (Int.ofNat n > 100))), .bool true)], [], []) := by kernel_rfl
def hl1 (o : Blk) (y : ViewV) (B1 : Blk) : Hp := heapOf [B1, .dead] (hk0 o y)
noncomputable def hl3 (o : Blk) (y a : ViewV) (B1 : Blk) : Hp := hkG a (hkG a (hl1 o y B1))
noncomputable def hl4 (o : Blk) (y a : ViewV) (B1 B2 : Blk) : Hp := heapOf [B2, .dead] (hl3 o y a B1)
noncomputable def hl5 (o : Blk) (y a : ViewV) (B1 B2 B3 : Blk) : Hp := heapOf [B3, .dead] (hl4 o y a B1 B2)
noncomputable def hl6 (o : Blk) (y a : ViewV) (B1 B2 B3 B4 : Blk) : Hp := heapOf [B4, .dead] (hl5 o y a B1 B2 B3)
noncomputable def hl7 (o : Blk) (y a : ViewV) (B1 B2 B3 B4 B5 : Blk) : Hp := heapOf [B5, .dead] (hl6 o y a B1 B2 B3 B4)
noncomputable def hl9 (o : Blk) (y a : ViewV) (B1 B2 B3 B4 B5 : Blk) : Hp := heapOf [.dead] (heapOf [.dead] (hl7 o y a B1 B2 B3 B4 B5))
theorem r10b : (execE Try.prog cL [(22, iN n), (23, .bool false), (66, .bool rb), (69, .bool true), (73, .bool true), (78, .bool true), (92, .bool true), (102, .bool true)]
      [(25, v1, [B1, .dead]), (29, gT a b, [.dead]), (35, gT a b, [.dead]), (42, .tuple #[v2, iN e], [B2, .dead]), (49, .tuple #[v3, iN e], [B3, .dead]), (55, .tuple #[v4, iN f], [B4, .dead]), (61, .tuple #[v5, iN f], [B5, .dead]),
       (65, .int .i64 z, [.dead]), (68, .bool rb, [.dead]), (87, .bool true, [.dead]), (97, .bool true, [.dead]), (107, .bool true, [.dead])] [] 60 fb10 (B10 o s y)).map (fun w => (look2 0 [] [6] (w.1, w.2.1), w.2.2)) =
    some ((.ret, [], [(6, .bool true)], true), [lenO s n, (some (.bool (decide (Int.ofNat n > 100))), .bool false), (some (.bool (z == 0)), .bool rb), (some (.bool (rb == rb)), .bool true),
        (fstV ((aBin Try.prog .eql 23 (hcA a) (hcA a)).map fun v => (v, none)), .bool true), (some (.bool (b == b)), .bool true), (some (.bool (Int.ofNat e == Int.ofNat e)), .bool true), (some (.bool (Int.ofNat f == Int.ofNat f)), .bool true)],
      [(cL 34 [s] (hk0 o y), (v1, hl1 o y B1)), (cL 33 [v1, .int .i64 y.id] (hl1 o y B1), (gT a b, heapOf [.dead] (hl1 o y B1))), (cL 39 [s, .int .i64 y.id] (hkG a (hl1 o y B1)), (gT a b, heapOf [.dead] (hkG a (hl1 o y B1)))),
       (cL 27 [v1, .int .i64 y.id, hcA y] (hl3 o y a B1), (.tuple #[v2, iN e], hl4 o y a B1 B2)), (cL 40 [s, .int .i64 y.id, hcA y] (hl4 o y a B1 B2), (.tuple #[v3, iN e], hl5 o y a B1 B2 B3)),
       (cL 41 [v1, .int .i64 y.id] (hl5 o y a B1 B2 B3), (.tuple #[v4, iN f], hl6 o y a B1 B2 B3 B4)), (cL 42 [s, .int .i64 y.id] (hl6 o y a B1 B2 B3 B4), (.tuple #[v5, iN f], hl7 o y a B1 B2 B3 B4 B5)),
       (cL 18 [v1] (hl7 o y a B1 B2 B3 B4 B5), (.int .i64 z, heapOf [.dead] (hl7 o y a B1 B2 B3 B4 B5))), (cL 43 [s] (heapOf [.dead] (hl7 o y a B1 B2 B3 B4 B5)), (.bool rb, hl9 o y a B1 B2 B3 B4 B5)),
       (cL 28 [v2, v3] (hl9 o y a B1 B2 B3 B4 B5), (.bool true, heapOf [.dead] (hl9 o y a B1 B2 B3 B4 B5))), (cL 28 [v4, v5] (heapOf [.dead] (hl9 o y a B1 B2 B3 B4 B5)), (.bool true, heapOf [.dead] (heapOf [.dead] (hl9 o y a B1 B2 B3 B4 B5)))),
       (cL 28 [v1, s] (heapOf [.dead] (heapOf [.dead] (hl9 o y a B1 B2 B3 B4 B5))), (.bool true, heapOf [.dead] (heapOf [.dead] (heapOf [.dead] (hl9 o y a B1 B2 B3 B4 B5)))))], []) := by kernel_rfl
end
end Go.Proofs.Ytiogdklmhpllfaa.LtA
namespace Go.Proofs.Ytiogdklmhpllfaa.LtA
open Go Go.Proofs Go.Proofs.Ytiogdklmhpllfaa.AI Go.RowKit

/-- What lies in a heap lies in another one. -/
def Grow (hp hp' : Hp) : Prop := ∀ b o, hp.get b = some o → hp'.get b = some o
theorem Grow.trans {a b c : Hp} (h1 : Grow a b) (h2 : Grow b c) : Grow a c := fun x o h => h2 x o (h1 x o h)
theorem grow_heap {hp : Hp} (hk : hp.ok) (O : List Blk) : Grow hp (heapOf O hp) := fun b x h => get_old hk h
theorem TR.grow {vs : List ViewV} {s : Value} {a b : Hp} (h : TR vs s a) (g : Grow a b) : TR vs s b := by
  obtain ⟨k, c, o, h1, h2, h3⟩ := h
  exact ⟨k, c, o, h1, g _ _ h2, h3⟩
theorem TN.grow {vs : List ViewV} {s : Value} {a b : Hp} (h : TN vs s a) (g : Grow a b) : TN vs s b := by
  rcases h with h | h
  · exact .inl h
  · exact .inr (h.grow g)
theorem SM.grow {us : List ViewV} {s t : Value} {a b : Hp} (h : SM us s t a) (g : Grow a b) : SM us s t b := by
  rcases h with h | ⟨h1, h2, h3⟩ | ⟨h1, h2, h3⟩ | ⟨b1, c1, o1, b2, c2, o2, h1, h2, h3, h4, h5, h6⟩
  · exact .inl h
  · exact .inr (.inl ⟨h1.grow g, h2, h3⟩)
  · exact .inr (.inr (.inl ⟨h1, h2.grow g, h3⟩))
  · exact .inr (.inr (.inr ⟨b1, c1, o1, b2, c2, o2, h1, h2, h3, g _ _ h4, g _ _ h5, h6⟩))
section
variable {hp : Hp}
theorem cL_34 (args : List Value) : cL 34 args hp = padF G34 args hp := by
  show aCall Try.prog EL 5 34 _ _ = _
  rw [aCall]; rfl
theorem cL_33 (args : List Value) : cL 33 args hp = G33 args hp := by
  show aCall Try.prog EL 5 33 _ _ = _
  rw [aCall]; rfl
theorem cL_39 (args : List Value) : cL 39 args hp = G33 args hp := by
  show aCall Try.prog EL 5 39 _ _ = _
  rw [aCall]; rfl
theorem cL_27 (args : List Value) : cL 27 args hp = padF G27 args hp := by
  show aCall Try.prog EL 5 27 _ _ = _
  rw [aCall]; rfl
theorem cL_40 (args : List Value) : cL 40 args hp = padF G40 args hp := by
  show aCall Try.prog EL 5 40 _ _ = _
  rw [aCall]; rfl
theorem cL_41 (args : List Value) : cL 41 args hp = padF G41 args hp := by
  show aCall Try.prog EL 5 41 _ _ = _
  rw [aCall]; rfl
theorem cL_42 (args : List Value) : cL 42 args hp = padF G42 args hp := by
  show aCall Try.prog EL 5 42 _ _ = _
  rw [aCall]; rfl
theorem cL_18 (args : List Value) : cL 18 args hp = G18 args hp := by
  show aCall Try.prog EL 5 18 _ _ = _
  rw [aCall]; rfl
theorem cL_43 (args : List Value) : cL 43 args hp = G43 args hp := by
  show aCall Try.prog EL 5 43 _ _ = _
  rw [aCall]; rfl
theorem cL_28 (args : List Value) : cL 28 args hp = gSM args hp := by
  show aCall Try.prog EL 5 28 _ _ = _
  rw [aCall]; rfl
theorem G27_of {vs : List ViewV} {s : Value} (y : ViewV) (h : TN vs s hp) (hn : vs.length < 1000000) : G27 [s, .int .i64 y.id, hcA y] hp = match rightB vs && oneV y with
    | true => some (.tuple #[rowS hp.sz (setV vs y).length (setC s vs y.id), iN 0], heapOf [rowB (setV vs y), .dead] hp)
    | false => some (.tuple #[nilS, iN 1], heapOf [.dead] hp) := by
  unfold G27
  rw [atRow_of h hn trivial, g27_of y h]
  cases (rightB vs && oneV y) <;> rfl
end
theorem rowV_tn {us : List ViewV} {b : Nat} {hp : Hp} (hb : hp.get b = some (ownB us)) : TN us (rowV us b) hp := by
  cases us with
  | nil => exact .inl ⟨rfl, rfl⟩
  | cons u us => exact TN.new rfl hb
/-- A new row, and one that lies elsewhere. -/
theorem SM_new {us : List ViewV} {s : Value} {b : Nat} {hp : Hp} (hb : hp.get b = some (ownB us)) (h : TN us s hp) (hne : ∀ b' n c, s = rowS b' n c → b' ≠ b) : SM us (rowV us b) s hp := by
  cases us with
  | nil =>
    rcases h with ⟨h, -⟩ | h
    · exact .inl ⟨rfl, h, rfl⟩
    · exact .inr (.inr (.inl ⟨rfl, h, rfl⟩))
  | cons u us =>
    rcases h with ⟨-, h⟩ | ⟨b', c', o', h1, h2, h3, h4⟩
    · cases h
    · exact .inr (.inr (.inr ⟨b, 22, rowB (u :: us), b', c', o', rfl, h1, fun e => hne b' _ _ h1 e.symm, hb, h2, row_block _, h3, .inr ⟨34, false, rfl⟩, h4⟩))
theorem SM.symm {us : List ViewV} {s t : Value} {hp : Hp} (h : SM us s t hp) : SM us t s hp := by
  rcases h with ⟨h1, h2, h3⟩ | ⟨h1, h2, h3⟩ | ⟨h1, h2, h3⟩ | ⟨b1, c1, o1, b2, c2, o2, h1, h2, h3, h4, h5, h6, h7, h8, h9⟩
  · exact .inl ⟨h2, h1, h3⟩
  · exact .inr (.inr (.inl ⟨h2, h1, h3⟩))
  · exact .inr (.inl ⟨h2, h1, h3⟩)
  · exact .inr (.inr (.inr ⟨b2, c2, o2, b1, c1, o1, h2, h1, fun e => h3 e.symm, h5, h4, h7, h6, h9, h8⟩))
theorem law10_fr (o : Blk) (s : Value) (n : Nat) (hlen : (lenO s n).1 = some (lenO s n).2) (hrow : n ≤ 100 → ∃ vs : List ViewV, vs.length = n ∧ ∀ y, TN vs s (hk0 o y)) (y : ViewV) (W : Base) :
    FRwp Try.prog 109 W fb10 (B10 o s y) (fun e st => (e = .normal ∨ e = .ret) ∧ st.df = [] ∧ retVal Try.prog Try.f10 st = some (.bool true)) := by
  have hend : ∀ (O : List Blk) (g : Nat → Value), (Exit.ret = Exit.normal ∨ Exit.ret = Exit.ret) ∧ (stOf 109 g [(6, .bool true)] O).df = [] ∧ retVal Try.prog Try.f10 (stOf 109 g [(6, .bool true)] O) = some (.bool true) := fun O g => ⟨.inr rfl, rfl, q10 _ _ g⟩
  cases h23 : decide (Int.ofNat n > 100) with
  | true => exact FRwp.pieceY cL_ok follows 0 _ _ _ _ (r10a o s n y) (Met.cons hlen (Met.cons (met_bool h23) Met.nil)) MetH.nil MetE.nil s10 rfl rfl (noFix _) fun g => hend _ g
  | false =>
    have hn : n ≤ 100 := by simp at h23; omega
    obtain ⟨vs, hvl, hT⟩ := hrow hn
    have hn1 : vs.length < 1000000 := by omega
    have hn2 : vs.length < 999999 := by omega
    have T0 := hT y
    have k0 : (hk0 o y).ok := heapOf_ok _ _ hp0_ok
    generalize hB1 : ownB vs = B1 at *
    generalize hA : (findV vs y.id).getD (zeroV 0) = a at *
    generalize hb : (findV vs y.id).isSome = b at *
    have eG : getV vs y.id = gT a b := by unfold getV gT; rw [hA, hb]
    have k1 : (hl1 o y B1).ok := heapOf_ok _ _ k0
    have k2 : (hkG a (hl1 o y B1)).ok := heapOf_ok _ _ k1
    have k3 : (hl3 o y a B1).ok := heapOf_ok _ _ k2
    have G01 : Grow (hk0 o y) (hl1 o y B1) := grow_heap k0 _
    have G12 : Grow (hl1 o y B1) (hkG a (hl1 o y B1)) := grow_heap k1 _
    have G13 : Grow (hl1 o y B1) (hl3 o y a B1) := G12.trans (grow_heap k2 _)
    have a1 : cL 34 [s] (hk0 o y) = some (rowV vs 3, hl1 o y B1) := by
      rw [cL_34, pad_row (G34_of T0 hn1), hB1]; rfl
    have b1 : (hl1 o y B1).get 3 = some (ownB vs) := by rw [hB1]; unfold hl1; rw [heapOf_get]; rfl
    have O1 : TN vs (rowV vs 3) (hl1 o y B1) := rowV_tn b1
    have S1 : SM vs (rowV vs 3) s (hl1 o y B1) := SM_new b1 (T0.grow G01) fun b' n' c' e => by
      rcases T0 with ⟨h, -⟩ | ⟨b2, c2, o2, h1, h2, -⟩
      · rw [h] at e; simp [nilS, rowS] at e
      · have := lt_of_get k0 h2
        have h3 : (hk0 o y).sz = 3 := rfl
        rw [h1] at e
        simp [rowS] at e
        omega
    have a2 : cL 33 [rowV vs 3, .int .i64 y.id] (hl1 o y B1) = some (gT a b, heapOf [.dead] (hl1 o y B1)) := by rw [cL_33, G33_of O1.tq hn1, eG]
    have a3 : cL 39 [s, .int .i64 y.id] (hkG a (hl1 o y B1)) = some (gT a b, heapOf [.dead] (hkG a (hl1 o y B1))) := by rw [cL_39, G33_of (T0.grow (G01.trans G12)).tq hn1, eG]
    have O3 := O1.grow G13
    have T3 := T0.grow (G01.trans G13)
    -- Set
    obtain ⟨v2, B2, v3, B3, e, us, c1, c2, hul, hS⟩ : ∃ v2 B2 v3 B3 e, ∃ us : List ViewV, cL 27 [rowV vs 3, .int .i64 y.id, hcA y] (hl3 o y a B1) = some (.tuple #[v2, iN e], hl4 o y a B1 B2) ∧ cL 40 [s, .int .i64 y.id, hcA y] (hl4 o y a B1 B2) = some (.tuple #[v3, iN e], hl5 o y a B1 B2 B3) ∧
        us.length < 1000000 ∧ SM us v2 v3 (hl5 o y a B1 B2 B3) := by
      have G34' : ∀ B2, Grow (hl3 o y a B1) (hl4 o y a B1 B2) := fun B2 => grow_heap k3 _
      have q1 := G27_of y O3 hn1
      have q2 := fun B2 => G40_of y (T3.grow (G34' B2)) hn2
      cases hy : (rightB vs && oneV y) with
      | true =>
        rw [hy] at q1
        have q2' := q2 (rowB (setV vs y))
        rw [hy] at q2'
        refine ⟨rowS 9 (setV vs y).length (setC (rowV vs 3) vs y.id), rowB (setV vs y), newS 11 (setV vs y).length, rowB (setV vs y), 0, setV vs y, ?_, ?_, ?_, ?_⟩
        · rw [cL_27]; exact pad_two q1
        · rw [cL_40]; exact pad_two q2'
        · have : (setV vs y).length ≤ vs.length + 1 := by rw [setV_len]; cases fnd vs y.id <;> simp
          omega
        · refine .inr (.inr (.inr ⟨9, _, rowB (setV vs y), 11, _, rowB (setV vs y), rfl, rfl, by omega, ?_, ?_, row_block _, row_block _, .inr ⟨34, false, rfl⟩, .inr ⟨34, false, rfl⟩⟩))
          · exact grow_heap (heapOf_ok _ _ k3) _ _ _ (get_new (us := setV vs y) (hp := hl3 o y a B1) rfl)
          · exact get_new (us := setV vs y) (hp := hl4 o y a B1 (rowB (setV vs y))) rfl
      | false =>
        rw [hy] at q1
        have q2' := q2 .dead
        rw [hy] at q2'
        refine ⟨nilS, .dead, nilS, .dead, 1, [], ?_, ?_, by simp, .inl ⟨rfl, rfl, rfl⟩⟩
        · rw [cL_27]; exact pad_one q1
        · rw [cL_40]; exact pad_one q2'
    have k4 : (hl4 o y a B1 B2).ok := heapOf_ok _ _ k3
    have k5 : (hl5 o y a B1 B2 B3).ok := heapOf_ok _ _ k4
    have G35 : Grow (hl3 o y a B1) (hl5 o y a B1 B2 B3) := (grow_heap k3 _).trans (grow_heap k4 _)
    have O5 := O3.grow G35
    have T5 := T3.grow G35
    -- Drop
    obtain ⟨v4, B4, v5, B5, f, ws, d1, d2, hwl, hD⟩ : ∃ v4 B4 v5 B5 f, ∃ ws : List ViewV, cL 41 [rowV vs 3, .int .i64 y.id] (hl5 o y a B1 B2 B3) = some (.tuple #[v4, iN f], hl6 o y a B1 B2 B3 B4) ∧ cL 42 [s, .int .i64 y.id] (hl6 o y a B1 B2 B3 B4) = some (.tuple #[v5, iN f], hl7 o y a B1 B2 B3 B4 B5) ∧
        ws.length < 1000000 ∧ SM ws v4 v5 (hl7 o y a B1 B2 B3 B4 B5) := by
      have G56 : ∀ B4, Grow (hl5 o y a B1 B2 B3) (hl6 o y a B1 B2 B3 B4) := fun B4 => grow_heap k5 _
      have k6 : ∀ B4, (hl6 o y a B1 B2 B3 B4).ok := fun B4 => heapOf_ok _ _ k5
      have q1 := G41_of (id := y.id) O5 hn1
      have q2 := fun B4 => pad_row (G42_of (id := y.id) (T5.grow (G56 B4)) hn1)
      cases hy : (rightB vs && fnd vs y.id) with
      | true =>
        rw [hy] at q1
        obtain ⟨hr, hf⟩ := Bool.and_eq_true_iff.1 hy
        obtain ⟨e1, e2⟩ := drop_eq (id := y.id) hr
        have eL : drL vs y.id = dropV vs y.id := by unfold drL; rw [hr, e1, hf, e2 hf]; rfl
        have eC : drC vs y.id = 0 := by unfold drC; rw [hr, e1, hf]; rfl
        rw [eL, eC] at q2
        refine ⟨rowS 13 (dropV vs y.id).length 23, rowB (dropV vs y.id), rowV (dropV vs y.id) 15, ownB (dropV vs y.id), 0, dropV vs y.id, ?_, ?_, ?_, ?_⟩
        · rw [cL_41]; exact pad_two q1
        · rw [cL_42]; exact q2 _
        · rw [dropV_len hf]; omega
        · refine (SM_new (b := 15) (s := rowS 13 (dropV vs y.id).length 23) ?_ (TN.new rfl ?_) ?_).symm
          · show (heapOf [ownB (dropV vs y.id), .dead] (hl6 o y a B1 B2 B3 (rowB (dropV vs y.id)))).get 15 = _
            rw [heapOf_get]; rfl
          · exact grow_heap (k6 _) _ _ _ (get_new (us := dropV vs y.id) (hp := hl5 o y a B1 B2 B3) rfl)
          · intro b' n' c' e
            simp [rowS] at e
            omega
      | false =>
        rw [hy] at q1
        have eL : drL vs y.id = [] := by
          unfold drL
          cases hr : rightB vs with
          | false => rfl
          | true =>
            rw [hr] at hy
            have hf : fnd vs y.id = false := hy
            rw [(drop_eq (id := y.id) hr).1, hf]; rfl
        have eC : drC vs y.id = bif rightB vs then 7 else 1 := by
          unfold drC
          cases hr : rightB vs with
          | false => rfl
          | true =>
            rw [hr] at hy
            have hf : fnd vs y.id = false := hy
            rw [(drop_eq (id := y.id) hr).1, hf]; rfl
        rw [eL, eC] at q2
        refine ⟨nilS, .dead, nilS, .dead, bif rightB vs then 7 else 1, [], ?_, ?_, by simp, .inl ⟨rfl, rfl, rfl⟩⟩
        · rw [cL_41]; exact pad_one q1
        · rw [cL_42]; exact q2 _
    have k6 : (hl6 o y a B1 B2 B3 B4).ok := heapOf_ok _ _ k5
    have k7 : (hl7 o y a B1 B2 B3 B4 B5).ok := heapOf_ok _ _ k6
    have k8 : (heapOf [.dead] (hl7 o y a B1 B2 B3 B4 B5)).ok := heapOf_ok _ _ k7
    have k9 : (hl9 o y a B1 B2 B3 B4 B5).ok := heapOf_ok _ _ k8
    have G57 : Grow (hl5 o y a B1 B2 B3) (hl7 o y a B1 B2 B3 B4 B5) := (grow_heap k5 _).trans (grow_heap k6 _)
    have G79 : Grow (hl7 o y a B1 B2 B3 B4 B5) (hl9 o y a B1 B2 B3 B4 B5) := (grow_heap k7 _).trans (grow_heap k8 _)
    have e18 : cL 18 [rowV vs 3] (hl7 o y a B1 B2 B3 B4 B5) = some (.int .i64 (bif rightB vs then 0 else 1), heapOf [.dead] (hl7 o y a B1 B2 B3 B4 B5)) := by
      rw [cL_18, G18_of (O5.grow G57) hn1]
      cases rightB vs <;> rfl
    have e43 : cL 43 [s] (heapOf [.dead] (hl7 o y a B1 B2 B3 B4 B5)) = some (.bool (rightB vs), hl9 o y a B1 B2 B3 B4 B5) := by
      rw [cL_43, G43_of ((T5.grow G57).grow (grow_heap k7 _)).tq hn1]; rfl
    have f1 : cL 28 [v2, v3] (hl9 o y a B1 B2 B3 B4 B5) = some (.bool true, heapOf [.dead] (hl9 o y a B1 B2 B3 B4 B5)) := by
      rw [cL_28, gSM_of ((hS.grow G57).grow G79) hul]
    have f2 : cL 28 [v4, v5] (heapOf [.dead] (hl9 o y a B1 B2 B3 B4 B5)) = some (.bool true, heapOf [.dead] (heapOf [.dead] (hl9 o y a B1 B2 B3 B4 B5))) := by
      rw [cL_28, gSM_of ((hD.grow G79).grow (grow_heap k9 _)) hwl]
    have f3 : cL 28 [rowV vs 3, s] (heapOf [.dead] (heapOf [.dead] (hl9 o y a B1 B2 B3 B4 B5))) = some (.bool true, heapOf [.dead] (heapOf [.dead] (heapOf [.dead] (hl9 o y a B1 B2 B3 B4 B5)))) := by
      rw [cL_28, gSM_of ((((((S1.grow G13).grow G35).grow G57).grow G79).grow (grow_heap k9 _)).grow (grow_heap (heapOf_ok _ _ k9) _)) hn1]
    have hz : ((bif rightB vs then (0 : Int) else 1) == 0) = rightB vs := by cases rightB vs <;> rfl
    exact FRwp.pieceY cL_ok follows 0 _ _ _ _ (r10b o s n y a b (rightB vs) (bif rightB vs then 0 else 1) (rowV vs 3) v2 v3 v4 v5 B1 B2 B3 B4 B5 e f)
      (Met.cons hlen (Met.cons (met_bool h23) (Met.cons (met_bool hz) (Met.cons (by simp) (Met.cons (eql23_self a) (Met.cons (by simp) (Met.cons (by simp) (Met.cons (by simp) Met.nil))))))))
      (MetH.cons a1 (MetH.cons a2 (MetH.cons a3 (MetH.cons c1 (MetH.cons c2 (MetH.cons d1 (MetH.cons d2 (MetH.cons e18 (MetH.cons e43 (MetH.cons f1 (MetH.cons f2 (MetH.cons f3 MetH.nil)))))))))))) MetE.nil s10 rfl rfl (noFix _) fun g => hend _ g
end Go.Proofs.Ytiogdklmhpllfaa.LtA
namespace Go.Proofs.Ytiogdklmhpllfaa.LtA
open Go Go.Proofs Go.Proofs.Ytiogdklmhpllfaa.AI Go.RowKit Go.ChangeShapes

theorem walk10 {H : Type} {enc : TypeId × Value → H} (W : World) (base : Nat) (args : Array Value) (ds : List (DataW H)) (p : List MemPlace) (hsz : args.size = 3) (hval : ∀ (j : Nat) t v, Try.f10.params[j]? = some t → args[j]? = some v → Value.okWide Try.prog W .any base t v)
    (hA : DataW.TrodAll enc Try.prog W 0 (fun _ => true) true [29, 3, 23] args.toList ds p) : Calls Try.prog 10 args W fun e W' => e = .returned (.bool true) ∧ Below W.heap.size W W' := by
  obtain ⟨vl, va, vh, rfl⟩ : ∃ vl va vh, args = #[vl, va, vh] := by
    obtain ⟨l⟩ := args
    match l, hsz with
    | [a, b, c], _ => exact ⟨a, b, c, rfl⟩
  obtain ⟨a, rfl, _⟩ := valw_int Try.underlying3 (hval 1 3 va (by kernel_rfl) rfl)
  obtain ⟨y, hy, rfl⟩ := open_height' a (hval 2 23 vh (by kernel_rfl) rfl)
  subst hy
  obtain ⟨v1, vs1, d1, ds1, p1, q1, e1, _, _, hT, _⟩ := trodAll_cons hA
  cases e1
  obtain ⟨o, s, n, m, hi, sim, ro, rv, hl, hrow⟩ := row_arg (hval 0 29 vl (by kernel_rfl) rfl) hT
  refine law_end Try.func10 body10 ntmps10 W (args0 := [s, .int .i64 y.id, hcA y]) (by simp) (ok2_heap o .dead) sim ro (.cons rv (.cons (.flat rfl) (.cons (hcA_rel y) .nil))) fun W => ?_
  refine law10_fr o s n hl (fun hn => ?_) y W
  obtain ⟨vs, h1, h2⟩ := hrow hn
  exact ⟨vs, h1, fun y => h2 [.cells 23 (hcL y) false]⟩
theorem params10 : ∀ t ∈ Try.f10.params.toList, Try.prog.readableRec t = true ∧ t < Try.prog.types.size := by
  have h : Try.f10.params.toList.all (fun t => Try.prog.readableRec t && decide (t < Try.prog.types.size)) = true := by kernel_rfl
  intro t ht
  have := List.all_eq_true.1 h t ht
  simpa using this
theorem lifted10 (os : Os) (started : os.Started) (H : Type) (enc : TypeId × Value → H) :
    ReturnsInHanded {} Try.checked os 10 .any (Rows.viewsSetSpec.pre6 enc Try.prog Try.f10 Rows.viewsSetRow.domain false) (Rows.viewsSetSpec.post enc Try.prog Try.f10 false true false false) :=
  law_lifted (C := Try.checked) (tb := 4) started own (by kernel_rfl) Try.func10 laid params10 rfl (by kernel_rfl) Try.underlying4
    (fun ds hl => by
      match ds, hl with
      | [_, _, _], _ => rfl)
    (ChangeSpec.witness6 (enc := enc) (C := Try.checked) false ⟨#[], #[nilS, .int .i64 0, hcA (zeroV 0)], []⟩ 8 (by kernel_rfl) (by kernel_rfl) (by kernel_rfl) (by kernel_rfl))
    (fun W base args ds p hsz hval hA => walk10 W base args ds p hsz hval hA)

/-- The statement. -/
theorem viewsSet_proved : Rows.ViewsSetSaid :=
  OpenClaim.holds_of_wide 10 Try.f10 rfl rfl rfl rfl rfl rfl rfl ⟨rfl, rfl, rfl, rfl, rfl⟩ rfl rfl rfl rfl rfl (by kernel_rfl) Try.func10 (by kernel_rfl)
    (of_decide_eq_true (by kernel_rfl)) (by unfold Func.isWrapper; first | (rw [if_pos (by decide +kernel)]; kernel_rfl) | (rw [if_neg (by decide +kernel)]; exact ⟨rfl, rfl⟩))
    (fun os started H enc _ => lifted10 os started H enc)
#print axioms viewsSet_proved
end Go.Proofs.Ytiogdklmhpllfaa.LtA
