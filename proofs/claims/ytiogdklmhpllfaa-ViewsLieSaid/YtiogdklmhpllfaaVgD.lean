/- The document's answer, thalwegref02.Right and thalwegref12.Right: told. -/
import Derived.Test.YtiogdklmhpllfaaVgC
set_option linter.unusedVariables false
set_option linter.unusedSimpArgs false
set_option maxRecDepth 100000
namespace Go.Proofs.Ytiogdklmhpllfaa.LtA
open Go Go.Proofs Go.Proofs.Ytiogdklmhpllfaa.AI Go.RowKit

/-- thalweg/thalwegref02.Right -/
def tROne (hNull : Bool) (hTau : Int) (hOid : Int) (hR : Int) (hDelta : Int) (hId : Int) : Value := (bif hNull then (bif (decide (hId < 0)) then (.bool false) else (bif (decide (hId ≥ 64)) then (.bool false) else (bif (same23 (true) (hTau) (hOid) (hR) (hDelta) (hId) (true) (0) (0) (0) (0) (hId)) then (.bool true) else (.bool false)))) else (bif (decide (hId < 0)) then (.bool false) else (bif (decide (hId ≥ 64)) then (.bool false) else (bif (decide (hTau ≥ 0)) then (bif (decide (hTau ≤ 4611686018427387903)) then (bif (decide (hOid ≥ 0)) then (bif (decide (hOid < 64)) then (bif (hR == 0) then (bif (decide (hDelta ≥ (-1099511627776))) then (bif (decide (hDelta ≤ 1099511627776)) then (.bool true) else (.bool false)) else (.bool false)) else (bif (hR == 1) then (bif (decide (hDelta ≥ (-1099511627776))) then (bif (decide (hDelta ≤ 1099511627776)) then (.bool true) else (.bool false)) else (.bool false)) else (.bool false))) else (.bool false)) else (.bool false)) else (.bool false)) else (.bool false)))))
theorem tROne_run (hNull : Bool) (hTau : Int) (hOid : Int) (hR : Int) (hDelta : Int) (hId : Int) : ∃ hp, aCall Try.prog E1 61 70 [.agg #[.bool hNull, .int .i64 hTau, .int .i64 hOid, .int .i64 hR, .int .i64 hDelta, .int .i64 hId]] hp0 = some (tROne hNull hTau hOid hR hDelta hId, hp) := by
  cases hNull with
  | true =>
    cases h0 : (decide (hId < 0)) with
    | true =>
      have e : tROne true hTau hOid hR hDelta hId = (.bool false) := by simp only [tROne, h0, cond_true, cond_false]
      rw [e]
      exact callQ_run [(5, .bool true)] (q := [(some (.bool (decide (hId < 0))), .bool true)]) (by kernel_rfl) (Met.cons (met_bool h0) (Met.nil))
    | false =>
      cases h1 : (decide (hId ≥ 64)) with
      | true =>
        have e : tROne true hTau hOid hR hDelta hId = (.bool false) := by simp only [tROne, h0, h1, cond_true, cond_false]
        rw [e]
        exact callQ_run [(5, .bool false), (9, .bool true)] (q := [(some (.bool (decide (hId < 0))), .bool false), (some (.bool (decide (hId ≥ 64))), .bool true)]) (by kernel_rfl) (Met.cons (met_bool h0) (Met.cons (met_bool h1) (Met.nil)))
      | false =>
        cases h2 : (same23 (true) (hTau) (hOid) (hR) (hDelta) (hId) (true) (0) (0) (0) (0) (hId)) with
        | true =>
          have e : tROne true hTau hOid hR hDelta hId = (.bool true) := by simp only [tROne, h0, h1, h2, cond_true, cond_false]
          rw [e]
          exact callQ_run [(5, .bool false), (9, .bool false), (17, .bool true)] (q := [(some (.bool (decide (hId < 0))), .bool false), (some (.bool (decide (hId ≥ 64))), .bool false), (fstV ((aBin Try.prog .eql 23 (.agg #[.bool true, .int .i64 hTau, .int .i64 hOid, .int .i64 hR, .int .i64 hDelta, .int .i64 hId]) (.agg #[.bool true, .int .i64 0, .int .i64 0, .int .i64 0, .int .i64 0, .int .i64 hId])).map fun v => (v, none)), .bool true)]) (by kernel_rfl) (Met.cons (met_bool h0) (Met.cons (met_bool h1) (Met.cons ((eql23 ..).trans (met_bool h2)) (Met.nil))))
        | false =>
          have e : tROne true hTau hOid hR hDelta hId = (.bool false) := by simp only [tROne, h0, h1, h2, cond_true, cond_false]
          rw [e]
          exact callQ_run [(5, .bool false), (9, .bool false), (17, .bool false)] (q := [(some (.bool (decide (hId < 0))), .bool false), (some (.bool (decide (hId ≥ 64))), .bool false), (fstV ((aBin Try.prog .eql 23 (.agg #[.bool true, .int .i64 hTau, .int .i64 hOid, .int .i64 hR, .int .i64 hDelta, .int .i64 hId]) (.agg #[.bool true, .int .i64 0, .int .i64 0, .int .i64 0, .int .i64 0, .int .i64 hId])).map fun v => (v, none)), .bool false)]) (by kernel_rfl) (Met.cons (met_bool h0) (Met.cons (met_bool h1) (Met.cons ((eql23 ..).trans (met_bool h2)) (Met.nil))))
  | false =>
    cases h0 : (decide (hId < 0)) with
    | true =>
      have e : tROne false hTau hOid hR hDelta hId = (.bool false) := by simp only [tROne, h0, cond_true, cond_false]
      rw [e]
      exact callQ_run [(5, .bool true)] (q := [(some (.bool (decide (hId < 0))), .bool true)]) (by kernel_rfl) (Met.cons (met_bool h0) (Met.nil))
    | false =>
      cases h1 : (decide (hId ≥ 64)) with
      | true =>
        have e : tROne false hTau hOid hR hDelta hId = (.bool false) := by simp only [tROne, h0, h1, cond_true, cond_false]
        rw [e]
        exact callQ_run [(5, .bool false), (9, .bool true)] (q := [(some (.bool (decide (hId < 0))), .bool false), (some (.bool (decide (hId ≥ 64))), .bool true)]) (by kernel_rfl) (Met.cons (met_bool h0) (Met.cons (met_bool h1) (Met.nil)))
      | false =>
        cases h2 : (decide (hTau ≥ 0)) with
        | true =>
          cases h3 : (decide (hTau ≤ 4611686018427387903)) with
          | true =>
            cases h4 : (decide (hOid ≥ 0)) with
            | true =>
              cases h5 : (decide (hOid < 64)) with
              | true =>
                cases h6 : (hR == 0) with
                | true =>
                  cases h7 : (decide (hDelta ≥ (-1099511627776))) with
                  | true =>
                    cases h8 : (decide (hDelta ≤ 1099511627776)) with
                    | true =>
                      have e : tROne false hTau hOid hR hDelta hId = (.bool true) := by simp only [tROne, h0, h1, h2, h3, h4, h5, h6, h7, h8, cond_true, cond_false]
                      rw [e]
                      exact callQ_run [(5, .bool false), (9, .bool false), (20, .bool true), (24, .bool true), (29, .bool true), (34, .bool true), (39, .bool true), (49, .bool true), (54, .bool true)] (q := [(some (.bool (decide (hId < 0))), .bool false), (some (.bool (decide (hId ≥ 64))), .bool false), (some (.bool (decide (hTau ≥ 0))), .bool true), (some (.bool (decide (hTau ≤ 4611686018427387903))), .bool true), (some (.bool (decide (hOid ≥ 0))), .bool true), (some (.bool (decide (hOid < 64))), .bool true), (some (.bool (hR == 0)), .bool true), (some (.bool (decide (hDelta ≥ (-1099511627776)))), .bool true), (some (.bool (decide (hDelta ≤ 1099511627776))), .bool true)]) (by kernel_rfl) (Met.cons (met_bool h0) (Met.cons (met_bool h1) (Met.cons (met_bool h2) (Met.cons (met_bool h3) (Met.cons (met_bool h4) (Met.cons (met_bool h5) (Met.cons (met_bool h6) (Met.cons (met_bool h7) (Met.cons (met_bool h8) (Met.nil))))))))))
                    | false =>
                      have e : tROne false hTau hOid hR hDelta hId = (.bool false) := by simp only [tROne, h0, h1, h2, h3, h4, h5, h6, h7, h8, cond_true, cond_false]
                      rw [e]
                      exact callQ_run [(5, .bool false), (9, .bool false), (20, .bool true), (24, .bool true), (29, .bool true), (34, .bool true), (39, .bool true), (49, .bool true), (54, .bool false)] (q := [(some (.bool (decide (hId < 0))), .bool false), (some (.bool (decide (hId ≥ 64))), .bool false), (some (.bool (decide (hTau ≥ 0))), .bool true), (some (.bool (decide (hTau ≤ 4611686018427387903))), .bool true), (some (.bool (decide (hOid ≥ 0))), .bool true), (some (.bool (decide (hOid < 64))), .bool true), (some (.bool (hR == 0)), .bool true), (some (.bool (decide (hDelta ≥ (-1099511627776)))), .bool true), (some (.bool (decide (hDelta ≤ 1099511627776))), .bool false)]) (by kernel_rfl) (Met.cons (met_bool h0) (Met.cons (met_bool h1) (Met.cons (met_bool h2) (Met.cons (met_bool h3) (Met.cons (met_bool h4) (Met.cons (met_bool h5) (Met.cons (met_bool h6) (Met.cons (met_bool h7) (Met.cons (met_bool h8) (Met.nil))))))))))
                  | false =>
                    have e : tROne false hTau hOid hR hDelta hId = (.bool false) := by simp only [tROne, h0, h1, h2, h3, h4, h5, h6, h7, cond_true, cond_false]
                    rw [e]
                    exact callQ_run [(5, .bool false), (9, .bool false), (20, .bool true), (24, .bool true), (29, .bool true), (34, .bool true), (39, .bool true), (49, .bool false)] (q := [(some (.bool (decide (hId < 0))), .bool false), (some (.bool (decide (hId ≥ 64))), .bool false), (some (.bool (decide (hTau ≥ 0))), .bool true), (some (.bool (decide (hTau ≤ 4611686018427387903))), .bool true), (some (.bool (decide (hOid ≥ 0))), .bool true), (some (.bool (decide (hOid < 64))), .bool true), (some (.bool (hR == 0)), .bool true), (some (.bool (decide (hDelta ≥ (-1099511627776)))), .bool false)]) (by kernel_rfl) (Met.cons (met_bool h0) (Met.cons (met_bool h1) (Met.cons (met_bool h2) (Met.cons (met_bool h3) (Met.cons (met_bool h4) (Met.cons (met_bool h5) (Met.cons (met_bool h6) (Met.cons (met_bool h7) (Met.nil)))))))))
                | false =>
                  cases h7 : (hR == 1) with
                  | true =>
                    cases h8 : (decide (hDelta ≥ (-1099511627776))) with
                    | true =>
                      cases h9 : (decide (hDelta ≤ 1099511627776)) with
                      | true =>
                        have e : tROne false hTau hOid hR hDelta hId = (.bool true) := by simp only [tROne, h0, h1, h2, h3, h4, h5, h6, h7, h8, h9, cond_true, cond_false]
                        rw [e]
                        exact callQ_run [(5, .bool false), (9, .bool false), (20, .bool true), (24, .bool true), (29, .bool true), (34, .bool true), (39, .bool false), (43, .bool true), (49, .bool true), (54, .bool true)] (q := [(some (.bool (decide (hId < 0))), .bool false), (some (.bool (decide (hId ≥ 64))), .bool false), (some (.bool (decide (hTau ≥ 0))), .bool true), (some (.bool (decide (hTau ≤ 4611686018427387903))), .bool true), (some (.bool (decide (hOid ≥ 0))), .bool true), (some (.bool (decide (hOid < 64))), .bool true), (some (.bool (hR == 0)), .bool false), (some (.bool (hR == 1)), .bool true), (some (.bool (decide (hDelta ≥ (-1099511627776)))), .bool true), (some (.bool (decide (hDelta ≤ 1099511627776))), .bool true)]) (by kernel_rfl) (Met.cons (met_bool h0) (Met.cons (met_bool h1) (Met.cons (met_bool h2) (Met.cons (met_bool h3) (Met.cons (met_bool h4) (Met.cons (met_bool h5) (Met.cons (met_bool h6) (Met.cons (met_bool h7) (Met.cons (met_bool h8) (Met.cons (met_bool h9) (Met.nil)))))))))))
                      | false =>
                        have e : tROne false hTau hOid hR hDelta hId = (.bool false) := by simp only [tROne, h0, h1, h2, h3, h4, h5, h6, h7, h8, h9, cond_true, cond_false]
                        rw [e]
                        exact callQ_run [(5, .bool false), (9, .bool false), (20, .bool true), (24, .bool true), (29, .bool true), (34, .bool true), (39, .bool false), (43, .bool true), (49, .bool true), (54, .bool false)] (q := [(some (.bool (decide (hId < 0))), .bool false), (some (.bool (decide (hId ≥ 64))), .bool false), (some (.bool (decide (hTau ≥ 0))), .bool true), (some (.bool (decide (hTau ≤ 4611686018427387903))), .bool true), (some (.bool (decide (hOid ≥ 0))), .bool true), (some (.bool (decide (hOid < 64))), .bool true), (some (.bool (hR == 0)), .bool false), (some (.bool (hR == 1)), .bool true), (some (.bool (decide (hDelta ≥ (-1099511627776)))), .bool true), (some (.bool (decide (hDelta ≤ 1099511627776))), .bool false)]) (by kernel_rfl) (Met.cons (met_bool h0) (Met.cons (met_bool h1) (Met.cons (met_bool h2) (Met.cons (met_bool h3) (Met.cons (met_bool h4) (Met.cons (met_bool h5) (Met.cons (met_bool h6) (Met.cons (met_bool h7) (Met.cons (met_bool h8) (Met.cons (met_bool h9) (Met.nil)))))))))))
                    | false =>
                      have e : tROne false hTau hOid hR hDelta hId = (.bool false) := by simp only [tROne, h0, h1, h2, h3, h4, h5, h6, h7, h8, cond_true, cond_false]
                      rw [e]
                      exact callQ_run [(5, .bool false), (9, .bool false), (20, .bool true), (24, .bool true), (29, .bool true), (34, .bool true), (39, .bool false), (43, .bool true), (49, .bool false)] (q := [(some (.bool (decide (hId < 0))), .bool false), (some (.bool (decide (hId ≥ 64))), .bool false), (some (.bool (decide (hTau ≥ 0))), .bool true), (some (.bool (decide (hTau ≤ 4611686018427387903))), .bool true), (some (.bool (decide (hOid ≥ 0))), .bool true), (some (.bool (decide (hOid < 64))), .bool true), (some (.bool (hR == 0)), .bool false), (some (.bool (hR == 1)), .bool true), (some (.bool (decide (hDelta ≥ (-1099511627776)))), .bool false)]) (by kernel_rfl) (Met.cons (met_bool h0) (Met.cons (met_bool h1) (Met.cons (met_bool h2) (Met.cons (met_bool h3) (Met.cons (met_bool h4) (Met.cons (met_bool h5) (Met.cons (met_bool h6) (Met.cons (met_bool h7) (Met.cons (met_bool h8) (Met.nil))))))))))
                  | false =>
                    have e : tROne false hTau hOid hR hDelta hId = (.bool false) := by simp only [tROne, h0, h1, h2, h3, h4, h5, h6, h7, cond_true, cond_false]
                    rw [e]
                    exact callQ_run [(5, .bool false), (9, .bool false), (20, .bool true), (24, .bool true), (29, .bool true), (34, .bool true), (39, .bool false), (43, .bool false)] (q := [(some (.bool (decide (hId < 0))), .bool false), (some (.bool (decide (hId ≥ 64))), .bool false), (some (.bool (decide (hTau ≥ 0))), .bool true), (some (.bool (decide (hTau ≤ 4611686018427387903))), .bool true), (some (.bool (decide (hOid ≥ 0))), .bool true), (some (.bool (decide (hOid < 64))), .bool true), (some (.bool (hR == 0)), .bool false), (some (.bool (hR == 1)), .bool false)]) (by kernel_rfl) (Met.cons (met_bool h0) (Met.cons (met_bool h1) (Met.cons (met_bool h2) (Met.cons (met_bool h3) (Met.cons (met_bool h4) (Met.cons (met_bool h5) (Met.cons (met_bool h6) (Met.cons (met_bool h7) (Met.nil)))))))))
              | false =>
                have e : tROne false hTau hOid hR hDelta hId = (.bool false) := by simp only [tROne, h0, h1, h2, h3, h4, h5, cond_true, cond_false]
                rw [e]
                exact callQ_run [(5, .bool false), (9, .bool false), (20, .bool true), (24, .bool true), (29, .bool true), (34, .bool false)] (q := [(some (.bool (decide (hId < 0))), .bool false), (some (.bool (decide (hId ≥ 64))), .bool false), (some (.bool (decide (hTau ≥ 0))), .bool true), (some (.bool (decide (hTau ≤ 4611686018427387903))), .bool true), (some (.bool (decide (hOid ≥ 0))), .bool true), (some (.bool (decide (hOid < 64))), .bool false)]) (by kernel_rfl) (Met.cons (met_bool h0) (Met.cons (met_bool h1) (Met.cons (met_bool h2) (Met.cons (met_bool h3) (Met.cons (met_bool h4) (Met.cons (met_bool h5) (Met.nil)))))))
            | false =>
              have e : tROne false hTau hOid hR hDelta hId = (.bool false) := by simp only [tROne, h0, h1, h2, h3, h4, cond_true, cond_false]
              rw [e]
              exact callQ_run [(5, .bool false), (9, .bool false), (20, .bool true), (24, .bool true), (29, .bool false)] (q := [(some (.bool (decide (hId < 0))), .bool false), (some (.bool (decide (hId ≥ 64))), .bool false), (some (.bool (decide (hTau ≥ 0))), .bool true), (some (.bool (decide (hTau ≤ 4611686018427387903))), .bool true), (some (.bool (decide (hOid ≥ 0))), .bool false)]) (by kernel_rfl) (Met.cons (met_bool h0) (Met.cons (met_bool h1) (Met.cons (met_bool h2) (Met.cons (met_bool h3) (Met.cons (met_bool h4) (Met.nil))))))
          | false =>
            have e : tROne false hTau hOid hR hDelta hId = (.bool false) := by simp only [tROne, h0, h1, h2, h3, cond_true, cond_false]
            rw [e]
            exact callQ_run [(5, .bool false), (9, .bool false), (20, .bool true), (24, .bool false)] (q := [(some (.bool (decide (hId < 0))), .bool false), (some (.bool (decide (hId ≥ 64))), .bool false), (some (.bool (decide (hTau ≥ 0))), .bool true), (some (.bool (decide (hTau ≤ 4611686018427387903))), .bool false)]) (by kernel_rfl) (Met.cons (met_bool h0) (Met.cons (met_bool h1) (Met.cons (met_bool h2) (Met.cons (met_bool h3) (Met.nil)))))
        | false =>
          have e : tROne false hTau hOid hR hDelta hId = (.bool false) := by simp only [tROne, h0, h1, h2, cond_true, cond_false]
          rw [e]
          exact callQ_run [(5, .bool false), (9, .bool false), (20, .bool false)] (q := [(some (.bool (decide (hId < 0))), .bool false), (some (.bool (decide (hId ≥ 64))), .bool false), (some (.bool (decide (hTau ≥ 0))), .bool false)]) (by kernel_rfl) (Met.cons (met_bool h0) (Met.cons (met_bool h1) (Met.cons (met_bool h2) (Met.nil))))


/-- Is a height right, by the document's answer? -/
def r70 (n : Bool) (t o r d i : Int) : Bool :=
  bif n then decide (i ≥ 0) && (decide (i < 64) && same23 n t o r d i true 0 0 0 0 i)
  else decide (i ≥ 0) && (decide (i < 64) && (decide (t ≥ 0) && (decide (t ≤ 4611686018427387903) && (decide (o ≥ 0) && (decide (o < 64) && ((r == 0 || r == 1) && (decide (d ≥ (-1099511627776)) && decide (d ≤ 1099511627776))))))))
theorem half01 (r : Int) : (r == 0 || r == 1) = (Int.fdiv r (2 ^ (min (Int.toNat 1) 64)) == 0) := by
  have e : Int.fdiv r (2 ^ (min (Int.toNat 1) 64)) = r / 2 := by
    show Int.fdiv r 2 = _
    rw [Int.fdiv_eq_ediv_of_nonneg _ (by decide)]
  rw [e]
  rcases Decidable.em (r = 0) with h | h
  · subst h; rfl
  · rcases Decidable.em (r = 1) with h1 | h1
    · subst h1; rfl
    · rw [beq_false_of_ne h, beq_false_of_ne h1, beq_false_of_ne (by omega)]; rfl
theorem r70_ok (n : Bool) (t o r d i : Int) : r70 n t o r d i = okH n t o r d i := by
  unfold r70 okH
  rw [half01]
theorem tROne_eq (n : Bool) (t o r d i : Int) : tROne n t o r d i = .bool (okH n t o r d i) := by
  have a : decide (i < 0) = !decide (i ≥ 0) := by
    cases h : decide (i ≥ 0) with
    | true => exact decide_eq_false (by have := of_decide_eq_true h; omega)
    | false => exact decide_eq_true (by have := of_decide_eq_false h; omega)
  have b : decide (i ≥ 64) = !decide (i < 64) := by
    cases h : decide (i < 64) with
    | true => exact decide_eq_false (by have := of_decide_eq_true h; omega)
    | false => exact decide_eq_true (by have := of_decide_eq_false h; omega)
  rw [← r70_ok]
  unfold tROne r70
  rw [a, b]
  cases n
  · generalize decide (i ≥ 0) = x1
    generalize decide (i < 64) = x2
    generalize decide (t ≥ 0) = x3
    generalize decide (t ≤ 4611686018427387903) = x4
    generalize decide (o ≥ 0) = x5
    generalize decide (o < 64) = x6
    generalize (r == 0) = x7
    generalize (r == 1) = x8
    generalize decide (d ≥ (-1099511627776)) = x9
    generalize decide (d ≤ 1099511627776) = x10
    cases x1
    · rfl
    cases x2
    · rfl
    cases x3
    · rfl
    cases x4
    · rfl
    cases x5
    · rfl
    cases x6
    · rfl
    cases x7 <;> cases x8 <;> cases x9 <;> cases x10 <;> rfl
  · generalize decide (i ≥ 0) = x1
    generalize decide (i < 64) = x2
    generalize same23 true t o r d i true 0 0 0 0 i = x3
    cases x1 <;> cases x2 <;> cases x3 <;> rfl
def g70 : List Value → Option Value
  | [.agg c0] => match c0.toList with
    | [.bool hn, .int .i64 ht, .int .i64 ho, .int .i64 hr, .int .i64 hd, .int .i64 hi] => some (.bool (okH hn ht ho hr hd hi))
    | _ => none
  | _ => none
theorem hk70 : HookGoal Try.prog 70 g70 := hook_of (ext := E1) E1_ok follows Try.func70 (by kernel_rfl) fun args v h => by
  unfold g70 at h
  split at h
  · rename_i c0
    split at h
    · rename_i ec0
      cases h
      obtain rfl := arr_of ec0
      refine ⟨rfl, rfl, ?_⟩
      obtain ⟨hp, q⟩ := tROne_run _ _ _ _ _ _
      rw [tROne_eq] at q
      exact ⟨_, hp, q⟩
    · cases h
  · cases h

/-! ### thalwegref12.Right -/
noncomputable def E43 : Ext := extH Try.prog [(70, g70)]
section
variable (o : Blk) (n c : Nat)
end
open Classical in
noncomputable def g43 (vs : List ViewV) : HeapFn := fun args hp => match args with
  | [s] => if TQ vs s hp then some (.bool (rightB vs), heapOf ([] ++ [.dead]) hp) else none
  | _ => none
noncomputable def G43 : HeapFn := atP g43
open Classical in
theorem G43_of {vs : List ViewV} {s : Value} {hp : Hp} (h : TQ vs s hp) (hn : vs.length < 1000000) : G43 [s] hp = some (.bool (rightB vs), heapOf [.dead] hp) := by
  unfold G43
  rw [atP_of h hn]
  show (if TQ vs s hp then _ else _) = _
  rw [if_pos h]; rfl
end Go.Proofs.Ytiogdklmhpllfaa.LtA
namespace Go.Proofs.Ytiogdklmhpllfaa.LtA
open Go Go.Proofs Go.Proofs.Ytiogdklmhpllfaa.AI Go.RowKit

/-! ### Own -/
noncomputable def fb34 : Code := (Try.f34.body).getD .skip
theorem body34 : Try.f34.body = some fb34 := by kernel_rfl
theorem ntmps34 : Try.f34.ntmps = 8 := by kernel_rfl
theorem s34 : codeSafe Try.prog 8 fb34 = true := by kernel_rfl
theorem q34 (v : Value) (O : List Blk) (g : Nat → Value) : retVal Try.prog Try.f34 (stOf 8 g [(2, v)] O) = some v := by kernel_rfl
section
variable (o : Blk) (s : Value) (vs : List ViewV) (n c : Nat)
theorem r34n : (execE Try.prog c0 [] [] [] 20 fb34 ⟨tmsOf [nilS] 0 .leaf, heapOf [.dead] hp0, []⟩).map (fun y => (look2 0 [] [2] (y.1, y.2.1), y.2.2)) = some ((.ret, [], [(2, nilS)], true), [], [], []) := by kernel_rfl
theorem r34a : (execE Try.prog c0 [] [] [(6, nilS, [])] 20 fb34 ⟨tmsOf [rowS 0 n c] 0 .leaf, heapOf [o, .dead] hp0, []⟩).map (fun y => (look2 0 [] [2] (y.1, y.2.1), y.2.2)) =
    some ((.ret, [], [(2, nilS)], true), [], [], [(aAppend Try.prog (heapOf [o, .dead] hp0).get 2 [29, 29] [nilS, rowS 0 n c], (nilS, []))]) := by kernel_rfl
theorem r34b : (execE Try.prog c0 [] [] [(6, newS 2 n, [.push (rowB vs)])] 20 fb34 ⟨tmsOf [rowS 0 n c] 0 .leaf, heapOf [o, .dead] hp0, []⟩).map (fun y => (look2 1 [2] [2] (y.1, y.2.1), y.2.2)) =
    some ((.ret, [rowB vs], [(2, newS 0 n)], true), [], [], [(aAppend Try.prog (heapOf [o, .dead] hp0).get 2 [29, 29] [nilS, rowS 0 n c], (newS 2 n, [.push (rowB vs)]))]) := by kernel_rfl
end
theorem app_zero {get : Nat → Option Blk} {sz b c : Nat} : aAppend Try.prog get sz [29, 29] [nilS, rowS b 0 c] = some (nilS, []) := by
  obtain ⟨i, hi, h7, h56⟩ := info34
  obtain ⟨z, hz, hzl⟩ := zero34
  have hsrc : aSrc Try.prog get 7 z (.slice 34) (rowS b 0 c) = some ([], 0) := rfl
  unfold aAppend
  simp only [Try.underlying29, hi, hz, h7, h56, hzl]
  rw [if_neg (by decide)]
  simp only [hsrc]
  rw [if_neg (by simp)]
  rfl
/-- A row appended to nil. -/
theorem app_nil {get : Nat → Option Blk} {sz b n c : Nat} {vs : List ViewV} {ty : TypeId} {ro : Bool} (hb : get b = some (.cells ty (vrow vs) ro)) (hn : n = vs.length) (h0 : 0 < n) (hl : n < 1000000) :
    aAppend Try.prog get sz [29, 29] [nilS, rowS b n c] = some (newS sz n, [.push (rowB vs)]) := by
  obtain ⟨i, hi, h7, h56⟩ := info34
  obtain ⟨z, hz, hzl⟩ := zero34
  have hsrc : aSrc Try.prog get 7 z (.slice 34) (rowS b n c) = some (vrow vs, n) := by
    unfold aSrc
    simp only [rowS, srcLen, srcCells, hb]
    rw [if_neg (by omega), if_neg (by omega), getR_all (n := n * 7) (by rw [vrow_len, hn])]
    rfl
  unfold aAppend
  simp only [Try.underlying29, hi, hz, h7, h56, hzl]
  rw [if_neg (by decide)]
  simp only [hsrc, vrow_one, vrow_len]
  rw [if_neg (by rw [hn]; simp)]
  simp only [nilS]
  rw [if_neg (by omega), if_neg (by omega)]
  rfl
/-- What a function ends with that answers a row: nil where it is empty. -/
def rowV (us : List ViewV) (b : Nat) : Value := match us with
  | [] => nilS
  | _ :: _ => newS b us.length
def rowO (us : List ViewV) : List Blk := match us with
  | [] => []
  | _ :: _ => [rowB us]
def EndsO (vs : List ViewV) (e : Exit) (st : St) : Prop := e = .ret ∧ ∃ g, st = stOf 8 g [(2, rowV vs 0)] (rowO vs)
theorem own_fr (o : Blk) (ho : inertB o = true) (vs : List ViewV) (hn : vs.length < 1000000) (hrow : vs = [] ∨ ∃ ty ro, o = .cells ty (vrow vs) ro) (c : Nat) (W : Base) :
    FRwp Try.prog 8 W fb34 ⟨tmsOf [rowS 0 vs.length c] 0 .leaf, heapOf [o, .dead] hp0, []⟩ (EndsO vs) := by
  cases vs with
  | nil => exact FRwp.pieceY c0_ok follows 0 _ _ _ _ (r34a o 0 c) Met.nil MetH.nil (MetE.cons app_zero MetE.nil) s34 rfl rfl (noFix _) fun g => ⟨rfl, g, rfl⟩
  | cons v vs =>
    rcases hrow with h | ⟨ty, ro, h⟩
    · cases h
    · exact FRwp.pieceY c0_ok follows 1 _ _ _ _ (r34b o (v :: vs) (v :: vs).length c) Met.nil MetH.nil (MetE.cons (app_nil (ty := ty) (ro := ro) (by rw [heapOf0_get, h]; rfl) rfl (by simp) hn) MetE.nil) s34 rfl rfl (fix1 _ []) fun g => ⟨rfl, g, rfl⟩
theorem own_nil (W : Base) : FRwp Try.prog 8 W fb34 ⟨tmsOf [nilS] 0 .leaf, heapOf [.dead] hp0, []⟩ (EndsO []) :=
  FRwp.pieceY c0_ok follows 0 _ _ _ _ r34n Met.nil MetH.nil MetE.nil s34 rfl rfl (noFix _) fun g => ⟨rfl, g, rfl⟩
open Classical in
noncomputable def g34 (vs : List ViewV) : HeapFn := fun args hp => match args with
  | [s] => if TN vs s hp then some (rowV vs hp.sz, heapOf (rowO vs ++ [.dead]) hp) else none
  | _ => none
theorem hk34 (vs : List ViewV) (hn : vs.length < 1000000) : CallGoal Try.prog 34 (g34 vs) := scan_goal follows Try.func34 body34 (by kernel_rfl) fun args hp v hp' h hk => by
  unfold g34 at h
  rw [ntmps34]
  split at h
  case h_2 => cases h
  rename_i s
  split at h
  case isFalse => cases h
  rename_i hT
  cases h
  have run : ∃ (K0 : List Nat), nodupB K0 = true ∧ (∀ b ∈ K0, ∃ o, hp.get b = some o ∧ startOk o = true) ∧ ([s]).all ok3 = true ∧ ∀ W, FRwp Try.prog 8 W fb34 ⟨tmsOf ([s].map (sh3 K0 0)) 0 .leaf, startHp K0 hp, []⟩ (EndsO vs) := by
    rcases hT with ⟨rfl, rfl⟩ | ⟨b, c, ob, rfl, hb, hi, hr⟩
    · refine ⟨[], rfl, (fun b hb => by cases hb), rfl, fun W => ?_⟩
      have e1 : [nilS].map (sh3 [] 0) = [nilS] := by simp [sh3, sh2, sh1, nilS]
      rw [e1]
      exact own_nil W
    · refine ⟨[b], rfl, fun b' hb' => ?_, rfl, fun W => ?_⟩
      · have : b' = b := by simpa using hb'
        subst this
        exact ⟨ob, hb, inert_start hi⟩
      · have e1 : [rowS b vs.length c].map (sh3 [b] 0) = [rowS 0 vs.length c] := by simp [sh3, sh2, sh1, rho, idxOf, rowS]
        rw [e1, start1 hb hi]
        exact own_fr (roBlk ob) (ro_inert hi) vs hn (ro_row hr) c W
  obtain ⟨K0, n0, hst, hall, hrun⟩ := run
  cases vs with
  | nil =>
    refine ⟨K0, [], [], rfl, rfl, n0, rfl, hst, hall, (by simp), fun W => FRwp.mono (hrun W) fun e st q => ?_⟩
    obtain ⟨rfl, g, rfl⟩ := q
    exact ⟨.inr rfl, rfl, _, q34 _ _ g, rfl, (fun b hb => by cases hb), by simp [sh3, sh2, sh1, rowV, nilS], rfl⟩
  | cons v vs =>
    refine ⟨K0, [0], [rowB (v :: vs)], rfl, rfl, n0, rfl, hst, hall, (by simp), fun W => FRwp.mono (hrun W) fun e st q => ?_⟩
    obtain ⟨rfl, g, rfl⟩ := q
    have hg := row_fin (N := 8) (us := v :: vs) (v := nilS) (t := 0) (L := [(2, rowV (v :: vs) 0)]) (g := g)
    refine ⟨.inr rfl, rfl, _, q34 _ _ g, rfl, fun b' hb' => ?_, by simp [sh3, sh2, sh1, rho, idxOf, rowV, newS, rowS], out_row hg⟩
    have : b' = 0 := by simpa using hb'
    subst this
    exact ⟨_, hg, ok2_inert (row_block _), rfl⟩
noncomputable def G34 : HeapFn := atRow (fun _ => True) g34
theorem hkG34 : CallGoal Try.prog 34 G34 := atRow_goal fun vs hn _ => hk34 vs hn
open Classical in
theorem G34_of {vs : List ViewV} {s : Value} {hp : Hp} (h : TN vs s hp) (hn : vs.length < 1000000) : G34 [s] hp = some (rowV vs hp.sz, heapOf (rowO vs ++ [.dead]) hp) := by
  unfold G34
  rw [atRow_of h hn trivial]
  show (if TN vs s hp then _ else _) = _
  rw [if_pos h]

/-! ### Get -/
section
variable (o : Blk) (n c : Nat) (id : Int)
end
/-! ### Same, of a row and itself -/
theorem s28 : codeSafe Try.prog 26 code28 = true := by kernel_rfl
theorem q28' (v : Value) (O : List Blk) (g : Nat → Value) : retVal Try.prog Try.f28 (stOf 26 g [(4, v)] O) = some v := by kernel_rfl
theorem n28a : (execQ Try.prog cE [] 40 code28 ⟨tmsOf [nilS, nilS] 0 .leaf, heapOf [.dead] hp0, []⟩).map (fun y => (look2 0 [] [4] (y.1, y.2.1), y.2.2)) = some ((.ret, [], [(4, .bool true)], true), []) := by kernel_rfl
theorem n28b (o : Blk) (c : Nat) : (execQ Try.prog cE [] 40 code28 ⟨tmsOf [rowS 0 0 c, nilS] 0 .leaf, heapOf [o, .dead] hp0, []⟩).map (fun y => (look2 0 [] [4] (y.1, y.2.1), y.2.2)) = some ((.ret, [], [(4, .bool true)], true), []) := by kernel_rfl
theorem n28c (o : Blk) (c : Nat) : (execQ Try.prog cE [] 40 code28 ⟨tmsOf [nilS, rowS 0 0 c] 0 .leaf, heapOf [o, .dead] hp0, []⟩).map (fun y => (look2 0 [] [4] (y.1, y.2.1), y.2.2)) = some ((.ret, [], [(4, .bool true)], true), []) := by kernel_rfl
/-- Two rows that are alike, in two blocks, or nil. -/
def SM (us : List ViewV) (s t : Value) (hp : Hp) : Prop :=
  (s = nilS ∧ t = nilS ∧ us = []) ∨ (TR us s hp ∧ t = nilS ∧ us = []) ∨ (s = nilS ∧ TR us t hp ∧ us = []) ∨
    ∃ b1 c1 o1 b2 c2 o2, s = rowS b1 us.length c1 ∧ t = rowS b2 us.length c2 ∧ b1 ≠ b2 ∧ hp.get b1 = some o1 ∧ hp.get b2 = some o2 ∧ inertB o1 = true ∧ inertB o2 = true ∧ (us = [] ∨ ∃ ty ro, o1 = .cells ty (vrow us) ro) ∧ (us = [] ∨ ∃ ty ro, o2 = .cells ty (vrow us) ro)
open Classical in
noncomputable def gSM : HeapFn := fun args hp => match args with
  | [s, t] => if ∃ us, us.length < 1000000 ∧ SM us s t hp then some (.bool true, heapOf ([] ++ [.dead]) hp) else none
  | _ => none
theorem hkSM : CallGoal Try.prog 28 gSM := scan_goal follows Try.func28 body28 (by kernel_rfl) fun args hp v hp' h hk => by
  unfold gSM at h
  rw [ntmps28]
  split at h
  case h_2 => cases h
  rename_i s t
  split at h
  case isFalse => cases h
  rename_i hT
  obtain ⟨us, hn, hT⟩ := hT
  cases h
  have fin : ∀ {e : Exit} {st : St}, (e = .ret ∧ ∃ g, st = stOf 26 g [(4, .bool true)] []) → (e = .normal ∨ e = .ret) ∧ st.df = [] ∧ ∃ v0, retVal Try.prog Try.f28 st = some v0 ∧ ok3 v0 = true ∧
      (∀ b ∈ ([] : List Nat), ∃ o, st.hp.get b = some o ∧ okBlk o = true ∧ rwB o = true) ∧ .bool true = sh3 [] hp.sz v0 ∧ [] = outOf [] hp.sz st.hp := by
    rintro e st ⟨rfl, g, rfl⟩
    exact ⟨.inr rfl, rfl, _, q28' _ _ g, rfl, (fun b hb => by cases hb), rfl, rfl⟩
  rcases hT with ⟨rfl, rfl, rfl⟩ | ⟨⟨b, c, o, rfl, hb, hi, hr⟩, rfl, rfl⟩ | ⟨rfl, ⟨b, c, o, rfl, hb, hi, hr⟩, rfl⟩ | ⟨b1, c1, o1, b2, c2, o2, rfl, rfl, hne, h1, h2, i1, i2, r1, r2⟩
  · refine ⟨[], [], [], rfl, rfl, rfl, rfl, (fun b hb => by cases hb), rfl, (by simp), fun W => ?_⟩
    have e1 : [nilS, nilS].map (sh3 [] 0) = [nilS, nilS] := by simp [sh3, sh2, sh1, nilS]
    rw [e1]
    exact FRwp.piece cE_ok follows 0 _ _ _ _ n28a Met.nil s28 rfl rfl rfl (noFix _) fun g => fin ⟨rfl, g, rfl⟩
  · refine ⟨[b], [], [], rfl, rfl, rfl, rfl, fun b' hb' => ?_, rfl, (by simp), fun W => ?_⟩
    · have : b' = b := by simpa using hb'
      subst this
      exact ⟨o, hb, inert_start hi⟩
    · have e1 : [rowS b ([] : List ViewV).length c, nilS].map (sh3 [b] 0) = [rowS 0 0 c, nilS] := by simp [sh3, sh2, sh1, rho, idxOf, rowS, nilS]
      rw [e1, start1 hb hi]
      exact FRwp.piece cE_ok follows 0 _ _ _ _ (n28b (roBlk o) c) Met.nil s28 rfl rfl rfl (noFix _) fun g => fin ⟨rfl, g, rfl⟩
  · refine ⟨[b], [], [], rfl, rfl, rfl, rfl, fun b' hb' => ?_, rfl, (by simp), fun W => ?_⟩
    · have : b' = b := by simpa using hb'
      subst this
      exact ⟨o, hb, inert_start hi⟩
    · have e1 : [nilS, rowS b ([] : List ViewV).length c].map (sh3 [b] 0) = [nilS, rowS 0 0 c] := by simp [sh3, sh2, sh1, rho, idxOf, rowS, nilS]
      rw [e1, start1 hb hi]
      exact FRwp.piece cE_ok follows 0 _ _ _ _ (n28c (roBlk o) c) Met.nil s28 rfl rfl rfl (noFix _) fun g => fin ⟨rfl, g, rfl⟩
  · have hbe : Nat.beq b1 b2 = false := by
      cases e : Nat.beq b1 b2 with
      | false => rfl
      | true => exact absurd (Nat.eq_of_beq_eq_true e) hne
    refine ⟨[b1, b2], [], [], rfl, rfl, ?_, rfl, fun b' hb' => ?_, rfl, (by simp), fun W => ?_⟩
    · simp [nodupB, hbe]
    · have : b' = b1 ∨ b' = b2 := by simpa using hb'
      rcases this with rfl | rfl
      · exact ⟨o1, h1, inert_start i1⟩
      · exact ⟨o2, h2, inert_start i2⟩
    · have e1 : [rowS b1 us.length c1, rowS b2 us.length c2].map (sh3 [b1, b2] 0) = [rowS 0 us.length c1, rowS 1 us.length c2] := by
        simp [sh3, sh2, sh1, rho, idxOf, rowS, hbe]
      rw [e1, start2 h1 h2 i1 i2]
      refine FRwp.mono (same_fr (roBlk o1) (roBlk o2) (ro_inert i1) (ro_inert i2) us us hn (.of (ro_row r1)) (.of (ro_row r2)) c1 c2 W) fun e st q => ⟨q.1, q.2.1, _, q.2.2, rfl, (fun b hb => by cases hb), ?_, rfl⟩
      rw [sameRow_refl]; rfl
open Classical in
theorem gSM_of {us : List ViewV} {s t : Value} {hp : Hp} (h : SM us s t hp) (hn : us.length < 1000000) : gSM [s, t] hp = some (.bool true, heapOf [.dead] hp) := by
  unfold gSM
  simp only
  rw [if_pos ⟨us, hn, h⟩]
  rfl
end Go.Proofs.Ytiogdklmhpllfaa.LtA
namespace Go.Proofs.Ytiogdklmhpllfaa.LtA
open Go Go.Proofs Go.Proofs.Ytiogdklmhpllfaa.AI Go.RowKit

theorem app_one {get : Nat → Option Blk} {sz b b2 k : Nat} {ws : List ViewV} {x : ViewV} (hb : get b = some (rowB ws)) (hb2 : get b2 = some (.cells 34 (vc x) false)) (hk : k = ws.length) (hl : k < 2000000) :
    aAppend Try.prog get sz [29, 29] [newS b k, rowS b2 1 22] = some (newS sz (k + 1), [.put b .dead, .push (rowB (ws ++ [x]))]) := by
  subst hk
  obtain ⟨i, hi, h7, h56⟩ := info34
  obtain ⟨z, hz, hzl⟩ := zero34
  unfold rowB at hb
  have hsrc : aSrc Try.prog get 7 z (.slice 34) (rowS b2 1 22) = some (vc x, 1) := by
    unfold aSrc
    simp only [rowS, srcLen, srcCells, hb2]
    rw [if_neg (by omega), if_neg (by omega), getR_all (n := 1 * 7) rfl]
    rfl
  have hg : getR (vrow ws) 0 (ws.length * 7) = some (vrow ws) := getR_all (vrow_len ws)
  unfold aAppend
  simp only [Try.underlying29, hi, hz, h7, h56, hzl]
  rw [if_neg (by decide)]
  simp only [hsrc]
  rw [if_neg (by simp [vc, isOne])]
  simp only [newS, rowS]
  rw [if_neg (by omega), if_neg (by omega)]
  simp only [hb, hg]
  rw [if_neg (by omega), if_pos (by decide), if_neg (by rw [vrow_len]; omega)]
  unfold rowB
  rw [vrow_append]
  have e : vrow [x] = vc x := by unfold vrow; simp
  rw [e]
section
variable (o : Blk) (s : Value) (n c : Nat) (y : ViewV) (ws us zs : List ViewV) (k : Nat) (i : Nat) (x : ViewV) (g : Nat → Value)
end
section
variable (o : Blk) (n c : Nat) (y : ViewV) (ws us zs : List ViewV) (k : Nat) (i : Nat) (x : ViewV) (g : Nat → Value)
def hN (o : Blk) (y : ViewV) : Hp := heapOf ([o, hB y] ++ [.dead]) hp0
def vB (x : ViewV) : Blk := .cells 34 (vc x) false
def hR (o : Blk) (ws : List ViewV) (y : ViewV) : Hp := heapOf ([o, rowB ws, hB y] ++ [.dead]) hp0
noncomputable def hR1 (o : Blk) (ws us : List ViewV) (y : ViewV) : Hp := (((hR o ws y).push (vB y)).put 1 .dead).push (rowB us)
noncomputable def apR (h : Hp) (sz b k b2 : Nat) (us : List ViewV) : OblE := (aAppend Try.prog h.get sz [29, 29] [newS b k, rowS b2 1 22], (newS sz (k + 1), [.put b .dead, .push (rowB us)]))
end
section
variable (o : Blk) (s : Value) (n c : Nat) (y : ViewV) (ws us : List ViewV) (k : Nat) (g : Nat → Value)
end
end Go.Proofs.Ytiogdklmhpllfaa.LtA
namespace Go.Proofs.Ytiogdklmhpllfaa.LtA
open Go Go.Proofs Go.Proofs.Ytiogdklmhpllfaa.AI Go.RowKit

theorem fold_step {α β : Type} {f : α → β → α} {a : α} {vs : List β} {i : Nat} {x : β} (h : vs[i]? = some x) : (vs.take (i + 1)).foldl f a = f ((vs.take i).foldl f a) x := by
  rw [List.take_add_one, h]
  simp [List.foldl_append]
theorem RowAt.push {hp : Hp} {b : Nat} {vs : List ViewV} (h : RowAt hp b vs) (hb : b ≠ hp.sz) (o : Blk) : RowAt (hp.push o) b vs := by
  obtain ⟨ty, ro, rest, hg⟩ := h
  exact ⟨ty, ro, rest, by rw [Hp.get_push, if_neg hb, hg]⟩
theorem RowAt.put {hp : Hp} {b b' : Nat} {vs : List ViewV} (h : RowAt hp b vs) (hb : b ≠ b') (o : Blk) : RowAt (hp.put b' o) b vs := by
  obtain ⟨ty, ro, rest, hg⟩ := h
  exact ⟨ty, ro, rest, by rw [Hp.get_put, if_neg hb, hg]⟩
section
variable (o : Blk) (s : Value) (y : ViewV)
end
section
variable {o : Blk} {s : Value} {y : ViewV}
section
variable {vs : List ViewV} {n c i : Nat} {x : ViewV} {h : Hp}
end
end
/-! ### What it is -/
end Go.Proofs.Ytiogdklmhpllfaa.LtA
namespace Go.Proofs.Ytiogdklmhpllfaa.LtA
open Go Go.Proofs Go.Proofs.Ytiogdklmhpllfaa.AI Go.RowKit

open Classical in
noncomputable def g40 (vs : List ViewV) : HeapFn := fun args hp => match args with
  | [s, .int .i64 id, .agg cs] => match cs.toList with
    | [.bool n, .int .i64 t, .int .i64 o, .int .i64 r, .int .i64 d, .int .i64 i] =>
      if TN vs s hp then (match rightB vs && oneV ⟨id, n, t, o, r, d, i⟩ with
        | true => some (.tuple #[newS hp.sz (setV vs ⟨id, n, t, o, r, d, i⟩).length, iN 0], heapOf ([rowB (setV vs ⟨id, n, t, o, r, d, i⟩)] ++ [.dead]) hp)
        | false => some (.tuple #[nilS, iN 1], heapOf ([] ++ [.dead]) hp))
      else none
    | _ => none
  | _ => none
open Classical in
theorem g40_of {vs : List ViewV} {s : Value} {hp : Hp} (y : ViewV) (h : TN vs s hp) : g40 vs [s, .int .i64 y.id, hcA y] hp = match rightB vs && oneV y with
    | true => some (.tuple #[newS hp.sz (setV vs y).length, iN 0], heapOf [rowB (setV vs y), .dead] hp)
    | false => some (.tuple #[nilS, iN 1], heapOf [.dead] hp) := by
  show (if TN vs s hp then _ else _) = _
  rw [if_pos h]
  rfl
/-! ### Drop -/
section
variable (o : Blk) (n c : Nat) (id : Int) (ws us : List ViewV) (k : Nat) (i : Nat) (x : ViewV) (g : Nat → Value)
end
def notId (id : Int) (x : ViewV) : Bool := x.id != id
/-- Without a node's view. -/
def filV (vs : List ViewV) (id : Int) : List ViewV := vs.filter (notId id)
def drC (vs : List ViewV) (id : Int) : Nat := bif rightB vs then (bif (Int.ofNat (filV vs id).length == Int.ofNat vs.length) then 7 else 0) else 1
def drL (vs : List ViewV) (id : Int) : List ViewV := bif rightB vs && !(Int.ofNat (filV vs id).length == Int.ofNat vs.length) then filV vs id else []
section
variable (o : Blk) (id : Int) (s : Value)
end
open Classical in
noncomputable def g42 (vs : List ViewV) : HeapFn := fun args hp => match args with
  | [s, .int .i64 id] => if TN vs s hp then some (.tuple #[rowV (drL vs id) hp.sz, iN (drC vs id)], heapOf (rowO (drL vs id) ++ [.dead]) hp) else none
  | _ => none
noncomputable def G42 : HeapFn := atRow (fun _ => True) g42
open Classical in
theorem G42_of {vs : List ViewV} {s : Value} {hp : Hp} {id : Int} (h : TN vs s hp) (hn : vs.length < 1000000) : G42 [s, .int .i64 id] hp = some (.tuple #[rowV (drL vs id) hp.sz, iN (drC vs id)], heapOf (rowO (drL vs id) ++ [.dead]) hp) := by
  unfold G42
  rw [atRow_of h hn trivial]
  show (if TN vs s hp then _ else _) = _
  rw [if_pos h]
end Go.Proofs.Ytiogdklmhpllfaa.LtA
namespace Go.Proofs.Ytiogdklmhpllfaa.LtA
open Go Go.Proofs Go.Proofs.Ytiogdklmhpllfaa.AI Go.RowKit

/-! ### Told functions that lay two blocks always -/
/-- Of one or two blocks laid, two. -/
def padF (k : HeapFn) : HeapFn := fun args hp => match k args hp with
  | some (v, hp1) => if hp1.sz = hp.sz + 1 then some (v, heapOf [.dead] hp1) else some (v, hp1)
  | none => none
theorem pad_goal {P : Program} {f : FuncId} {k : HeapFn} (hg : CallGoal P f k) : CallGoal P f (padF k) := by
  intro args hp v hp2 he hk
  unfold padF at he
  split at he
  case h_2 => cases he
  rename_i v1 hp1 h1
  split at he
  case isFalse => cases he; exact hg args hp v hp2 h1 hk
  cases he
  obtain ⟨hk1, hle, hgo⟩ := hg args hp v hp1 h1 hk
  have hsz : (heapOf [.dead] hp1).sz = hp1.sz + 1 := rfl
  refine ⟨heapOf_ok _ _ hk1, by rw [hsz]; omega, fun m h w args' hfr s ra => ?_⟩
  have step : ∀ v' w', (∃ m', Go1 m (ovr hp h) w m' (ovr hp1 h) w' ∧ VRel m' (ovr hp1 h) v v') → ∃ m', Go1 m (ovr hp h) w m' (ovr (heapOf [.dead] hp1) h) w' ∧ VRel m' (ovr (heapOf [.dead] hp1) h) v v' := ?_
  · rcases hgo m h w args' (fun b a c => hfr b a (by rw [hsz]; omega)) s ra with ⟨v', w', q1, q2⟩ | ⟨q1, q2⟩
    · exact .inl ⟨v', w', q1, step v' w' q2⟩
    · exact .inr ⟨q1, q2.mono fun e w' hh => by
        obtain ⟨v', h1, h2⟩ := hh
        exact ⟨v', h1, step v' w' h2⟩⟩
  rintro v' w' ⟨m', go, rv⟩
  have hnew : h hp1.sz = none := hfr hp1.sz hle (by rw [hsz]; omega)
  have hov : ∀ b, ovr (heapOf [.dead] hp1) h b = if b = hp1.sz then some .dead else ovr hp1 h b := by
    intro b
    unfold ovr
    rw [hsz]
    by_cases h1 : b < hp1.sz
    · rw [if_pos (by omega), if_neg (by omega), if_pos h1, heapOf_get, if_pos h1]
    · by_cases h2 : b = hp1.sz
      · subst h2
        rw [if_pos (by omega), if_pos rfl, heapOf_get, if_neg h1, Nat.sub_self]; rfl
      · rw [if_neg (by omega), if_neg h2, if_neg h1]
  have hnone : ovr hp1 h hp1.sz = none := by
    unfold ovr
    rw [if_neg (by omega)]; exact hnew
  have hmn : m' hp1.sz = none := by
    cases e : m' hp1.sz with
    | none => rfl
    | some x => obtain ⟨o, ho, _⟩ := go.sim.dom _ x e; rw [hnone] at ho; cases ho
  have hne : ∀ b x, m' b = some x → b ≠ hp1.sz := fun b x hx e => by subst e; rw [hmn] at hx; cases hx
  have hke : ∀ b o, ovr hp1 h b = some o → b ≠ hp1.sz := fun b o hb e => by subst e; rw [hnone] at hb; cases hb
  have le2 : Le m' (ovr hp1 h) m' (ovr (heapOf [.dead] hp1) h) := ⟨fun b hb => by rw [hov, if_neg (hke b _ hb)]; exact hb, fun b x hx => .inr hx⟩
  have rwS : ∀ b, b ≠ hp1.sz → rw? (ovr (heapOf [.dead] hp1) h) b = rw? (ovr hp1 h) b := fun b hb => by unfold rw?; rw [hov, if_neg hb]
  have lvS : ∀ b, b ≠ hp1.sz → live? (ovr (heapOf [.dead] hp1) h) b = live? (ovr hp1 h) b := fun b hb => by unfold live?; rw [hov, if_neg hb]
  refine ⟨m', ⟨go.le.trans le2, ⟨fun b x hx => ?_, fun b b' x x' hx hx' hr hl e => go.sim.inj b b' x x' hx hx' (by rw [← rwS b (hne b x hx)]; exact hr) (by rw [← lvS b' (hne b' x' hx')]; exact hl) e⟩, go.size, go.new, go.frame, go.un, fun b o hb hm => ?_, fun b o hb => ?_, fun b x hx hr => ?_, go.os, go.tape, go.output⟩, rv.mono le2⟩
  · obtain ⟨o, ho, hbr⟩ := go.sim.dom b x hx
    exact ⟨o, by rw [hov, if_neg (hne b x hx)]; exact ho, hbr.mono le2 rfl⟩
  · have := go.idle b o hb hm
    rw [hov, if_neg (hke b _ this)]; exact this
  · obtain ⟨o', ho'⟩ := go.ex b o hb
    exact ⟨o', by rw [hov, if_neg (hke b _ ho')]; exact ho'⟩
  · have hb1 : b ≠ hp1.sz := by
      intro e
      subst e
      unfold rw? at hr
      rw [hov, if_pos rfl] at hr
      cases hr
    exact go.rwb b x hx (by rw [← rwS b hb1]; exact hr)
theorem pad_two {k : HeapFn} {args : List Value} {hp : Hp} {v : Value} {B : Blk} (h : k args hp = some (v, heapOf [B, .dead] hp)) : padF k args hp = some (v, heapOf [B, .dead] hp) := by
  unfold padF
  rw [h]
  have : (heapOf [B, .dead] hp).sz = hp.sz + 2 := rfl
  simp only [this]
  rw [if_neg (by omega)]
theorem pad_one {k : HeapFn} {args : List Value} {hp : Hp} {v : Value} (h : k args hp = some (v, heapOf [.dead] hp)) : padF k args hp = some (v, heapOf [.dead, .dead] hp) := by
  unfold padF
  rw [h]
  have : (heapOf [Blk.dead] hp).sz = hp.sz + 1 := rfl
  simp only [this]
  rfl
def ownB (vs : List ViewV) : Blk := match vs with
  | [] => .dead
  | _ :: _ => rowB vs
theorem pad_row {k : HeapFn} {args : List Value} {hp : Hp} {v : Value} {us : List ViewV} (h : k args hp = some (v, heapOf (rowO us ++ [.dead]) hp)) : padF k args hp = some (v, heapOf [ownB us, .dead] hp) := by
  cases us with
  | nil => exact pad_one h
  | cons => exact pad_two h

/-! ### The run -/
section
variable (o : Blk) (s : Value) (n : Nat) (y a : ViewV) (b rb : Bool) (z : Int) (v1 v2 v3 v4 v5 : Value) (B1 B2 B3 B4 B5 : Blk) (e f : Nat)
def hl1 (o : Blk) (y : ViewV) (B1 : Blk) : Hp := heapOf [B1, .dead] (hk0 o y)
noncomputable def hl3 (o : Blk) (y a : ViewV) (B1 : Blk) : Hp := hkG a (hkG a (hl1 o y B1))
end
end Go.Proofs.Ytiogdklmhpllfaa.LtA
namespace Go.Proofs.Ytiogdklmhpllfaa.LtA
open Go Go.Proofs Go.Proofs.Ytiogdklmhpllfaa.AI Go.RowKit

/-- What lies in a heap lies in another one. -/
def Grow (hp hp' : Hp) : Prop := ∀ b o, hp.get b = some o → hp'.get b = some o
theorem Grow.trans {a b c : Hp} (h1 : Grow a b) (h2 : Grow b c) : Grow a c := fun x o h => h2 x o (h1 x o h)
theorem grow_heap {hp : Hp} (hk : hp.ok) (O : List Blk) : Grow hp (heapOf O hp) := fun b x h => get_old hk h
theorem TR.grow {vs : List ViewV} {s : Value} {a b : Hp} (h : TR vs s a) (g : Grow a b) : TR vs s b := by
  obtain ⟨k, c, o, h1, h2, h3⟩ := h
  exact ⟨k, c, o, h1, g _ _ h2, h3⟩
theorem TN.grow {vs : List ViewV} {s : Value} {a b : Hp} (h : TN vs s a) (g : Grow a b) : TN vs s b := by
  rcases h with h | h
  · exact .inl h
  · exact .inr (h.grow g)
theorem SM.grow {us : List ViewV} {s t : Value} {a b : Hp} (h : SM us s t a) (g : Grow a b) : SM us s t b := by
  rcases h with h | ⟨h1, h2, h3⟩ | ⟨h1, h2, h3⟩ | ⟨b1, c1, o1, b2, c2, o2, h1, h2, h3, h4, h5, h6⟩
  · exact .inl h
  · exact .inr (.inl ⟨h1.grow g, h2, h3⟩)
  · exact .inr (.inr (.inl ⟨h1, h2.grow g, h3⟩))
  · exact .inr (.inr (.inr ⟨b1, c1, o1, b2, c2, o2, h1, h2, h3, g _ _ h4, g _ _ h5, h6⟩))
section
variable {hp : Hp}
end
theorem rowV_tn {us : List ViewV} {b : Nat} {hp : Hp} (hb : hp.get b = some (ownB us)) : TN us (rowV us b) hp := by
  cases us with
  | nil => exact .inl ⟨rfl, rfl⟩
  | cons u us => exact TN.new rfl hb
/-- A new row, and one that lies elsewhere. -/
theorem SM_new {us : List ViewV} {s : Value} {b : Nat} {hp : Hp} (hb : hp.get b = some (ownB us)) (h : TN us s hp) (hne : ∀ b' n c, s = rowS b' n c → b' ≠ b) : SM us (rowV us b) s hp := by
  cases us with
  | nil =>
    rcases h with ⟨h, -⟩ | h
    · exact .inl ⟨rfl, h, rfl⟩
    · exact .inr (.inr (.inl ⟨rfl, h, rfl⟩))
  | cons u us =>
    rcases h with ⟨-, h⟩ | ⟨b', c', o', h1, h2, h3, h4⟩
    · cases h
    · exact .inr (.inr (.inr ⟨b, 22, rowB (u :: us), b', c', o', rfl, h1, fun e => hne b' _ _ h1 e.symm, hb, h2, row_block _, h3, .inr ⟨34, false, rfl⟩, h4⟩))
theorem SM.symm {us : List ViewV} {s t : Value} {hp : Hp} (h : SM us s t hp) : SM us t s hp := by
  rcases h with ⟨h1, h2, h3⟩ | ⟨h1, h2, h3⟩ | ⟨h1, h2, h3⟩ | ⟨b1, c1, o1, b2, c2, o2, h1, h2, h3, h4, h5, h6, h7, h8, h9⟩
  · exact .inl ⟨h2, h1, h3⟩
  · exact .inr (.inr (.inl ⟨h2, h1, h3⟩))
  · exact .inr (.inl ⟨h2, h1, h3⟩)
  · exact .inr (.inr (.inr ⟨b2, c2, o2, b1, c1, o1, h2, h1, fun e => h3 e.symm, h5, h4, h7, h6, h9, h8⟩))
end Go.Proofs.Ytiogdklmhpllfaa.LtA
