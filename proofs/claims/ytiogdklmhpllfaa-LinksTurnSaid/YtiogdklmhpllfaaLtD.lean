/- LinksTurn: what the law's text answers: true. -/
import Derived.Test.YtiogdklmhpllfaaLtC
import Derived.Test.YtiogdklmhpllfaaRows
set_option linter.unusedVariables false
set_option linter.unusedSimpArgs false
set_option maxRecDepth 100000
namespace Go.Proofs.Ytiogdklmhpllfaa.LtA
open Go Go.Proofs Go.Proofs.Ytiogdklmhpllfaa.AI

def awk : Bool := true
def g16 : List Value → Option Value
  | [] => some (.bool awk)
  | _ => none
theorem awake_run : (aCall Try.prog (extOf Try.prog) 4000 16 [] hp0).map (fun r => r.1) = some (.bool true) := by kernel_rfl
theorem hk16 : HookGoal Try.prog 16 g16 := hook_of (ext := extOf Try.prog) (extOf_ok _) follows Try.func16 (by kernel_rfl) fun args v h => by
  unfold g16 at h
  split at h
  · cases h
    obtain ⟨⟨u, hp⟩, h1, h2⟩ := Option.map_eq_some_iff.1 awake_run
    simp only at h2
    subst h2
    exact ⟨rfl, rfl, _, hp, h1⟩
  · cases h
noncomputable def E5 : Ext := extH Try.prog [(15, g15), (17, g17), (14, g14), (16, g16)]
theorem E5_ok : ExtOk Try.prog E5 := by unfold E5; exact extH_ok (.cons hk15 (.cons hk17 (.cons hk14 (.cons hk16 .nil))))
/-- thalweg/thalweglaw18.LinksTurn -/
def tTurn (aNull : Bool) (aTau : Int) (aOid : Int) (aR : Int) (aDelta : Int) (aId : Int) (bNull : Bool) (bTau : Int) (bOid : Int) (bR : Int) (bDelta : Int) (bId : Int) : Value := (bif aNull then (bif bNull then (bif ((chk (true) (aTau) (aOid) (aR) (aDelta) (aId)) == 0) then (bif ((chk (true) (bTau) (bOid) (bR) (bDelta) (bId)) == 0) then (bif (awk ) then (bif ((dir (true) (aTau) (aOid) (aR) (aDelta) (aId) (true) (bTau) (bOid) (bR) (bDelta) (bId)) != 2) then (bif ((dir (true) (bTau) (bOid) (bR) (bDelta) (bId) (true) (aTau) (aOid) (aR) (aDelta) (aId)) != 2) then (bif ((dir (true) (aTau) (aOid) (aR) (aDelta) (aId) (true) (bTau) (bOid) (bR) (bDelta) (bId)) == 1) then (bif ((dir (true) (bTau) (bOid) (bR) (bDelta) (bId) (true) (aTau) (aOid) (aR) (aDelta) (aId)) == 1) then (.bool false) else (.bool true)) else (.bool true)) else (.bool false)) else (.bool false)) else (.bool false)) else (bif (awk ) then (bif ((dir (true) (aTau) (aOid) (aR) (aDelta) (aId) (true) (bTau) (bOid) (bR) (bDelta) (bId)) != 2) then (bif ((dir (true) (bTau) (bOid) (bR) (bDelta) (bId) (true) (aTau) (aOid) (aR) (aDelta) (aId)) != 2) then (bif ((dir (true) (aTau) (aOid) (aR) (aDelta) (aId) (true) (bTau) (bOid) (bR) (bDelta) (bId)) == 1) then (bif ((dir (true) (bTau) (bOid) (bR) (bDelta) (bId) (true) (aTau) (aOid) (aR) (aDelta) (aId)) == 1) then (.bool false) else (.bool true)) else (.bool true)) else (.bool false)) else (.bool false)) else (.bool false))) else (bif (awk ) then (bif ((dir (true) (aTau) (aOid) (aR) (aDelta) (aId) (true) (bTau) (bOid) (bR) (bDelta) (bId)) != 2) then (bif ((dir (true) (bTau) (bOid) (bR) (bDelta) (bId) (true) (aTau) (aOid) (aR) (aDelta) (aId)) != 2) then (bif ((dir (true) (aTau) (aOid) (aR) (aDelta) (aId) (true) (bTau) (bOid) (bR) (bDelta) (bId)) == 1) then (bif ((dir (true) (bTau) (bOid) (bR) (bDelta) (bId) (true) (aTau) (aOid) (aR) (aDelta) (aId)) == 1) then (.bool false) else (.bool true)) else (.bool true)) else (.bool false)) else (.bool false)) else (.bool false))) else (bif ((chk (true) (aTau) (aOid) (aR) (aDelta) (aId)) == 0) then (bif ((chk (false) (bTau) (bOid) (bR) (bDelta) (bId)) == 0) then (bif (awk ) then (bif ((dir (true) (aTau) (aOid) (aR) (aDelta) (aId) (false) (bTau) (bOid) (bR) (bDelta) (bId)) != 2) then (bif ((dir (false) (bTau) (bOid) (bR) (bDelta) (bId) (true) (aTau) (aOid) (aR) (aDelta) (aId)) != 2) then (bif ((dir (true) (aTau) (aOid) (aR) (aDelta) (aId) (false) (bTau) (bOid) (bR) (bDelta) (bId)) == 1) then (bif ((dir (false) (bTau) (bOid) (bR) (bDelta) (bId) (true) (aTau) (aOid) (aR) (aDelta) (aId)) == 1) then (.bool false) else (.bool true)) else (.bool true)) else (.bool false)) else (.bool false)) else (.bool false)) else (bif (awk ) then (bif ((dir (true) (aTau) (aOid) (aR) (aDelta) (aId) (false) (bTau) (bOid) (bR) (bDelta) (bId)) != 2) then (bif ((dir (false) (bTau) (bOid) (bR) (bDelta) (bId) (true) (aTau) (aOid) (aR) (aDelta) (aId)) != 2) then (bif ((dir (true) (aTau) (aOid) (aR) (aDelta) (aId) (false) (bTau) (bOid) (bR) (bDelta) (bId)) == 1) then (bif ((dir (false) (bTau) (bOid) (bR) (bDelta) (bId) (true) (aTau) (aOid) (aR) (aDelta) (aId)) == 1) then (.bool false) else (.bool true)) else (.bool true)) else (.bool false)) else (.bool false)) else (.bool false))) else (bif (awk ) then (bif ((dir (true) (aTau) (aOid) (aR) (aDelta) (aId) (false) (bTau) (bOid) (bR) (bDelta) (bId)) != 2) then (bif ((dir (false) (bTau) (bOid) (bR) (bDelta) (bId) (true) (aTau) (aOid) (aR) (aDelta) (aId)) != 2) then (bif ((dir (true) (aTau) (aOid) (aR) (aDelta) (aId) (false) (bTau) (bOid) (bR) (bDelta) (bId)) == 1) then (bif ((dir (false) (bTau) (bOid) (bR) (bDelta) (bId) (true) (aTau) (aOid) (aR) (aDelta) (aId)) == 1) then (.bool false) else (.bool true)) else (.bool true)) else (.bool false)) else (.bool false)) else (.bool false)))) else (bif bNull then (bif ((chk (false) (aTau) (aOid) (aR) (aDelta) (aId)) == 0) then (bif ((chk (true) (bTau) (bOid) (bR) (bDelta) (bId)) == 0) then (bif (awk ) then (bif ((dir (false) (aTau) (aOid) (aR) (aDelta) (aId) (true) (bTau) (bOid) (bR) (bDelta) (bId)) != 2) then (bif ((dir (true) (bTau) (bOid) (bR) (bDelta) (bId) (false) (aTau) (aOid) (aR) (aDelta) (aId)) != 2) then (bif ((dir (false) (aTau) (aOid) (aR) (aDelta) (aId) (true) (bTau) (bOid) (bR) (bDelta) (bId)) == 1) then (bif ((dir (true) (bTau) (bOid) (bR) (bDelta) (bId) (false) (aTau) (aOid) (aR) (aDelta) (aId)) == 1) then (.bool false) else (.bool true)) else (.bool true)) else (.bool false)) else (.bool false)) else (.bool false)) else (bif (awk ) then (bif ((dir (false) (aTau) (aOid) (aR) (aDelta) (aId) (true) (bTau) (bOid) (bR) (bDelta) (bId)) != 2) then (bif ((dir (true) (bTau) (bOid) (bR) (bDelta) (bId) (false) (aTau) (aOid) (aR) (aDelta) (aId)) != 2) then (bif ((dir (false) (aTau) (aOid) (aR) (aDelta) (aId) (true) (bTau) (bOid) (bR) (bDelta) (bId)) == 1) then (bif ((dir (true) (bTau) (bOid) (bR) (bDelta) (bId) (false) (aTau) (aOid) (aR) (aDelta) (aId)) == 1) then (.bool false) else (.bool true)) else (.bool true)) else (.bool false)) else (.bool false)) else (.bool false))) else (bif (awk ) then (bif ((dir (false) (aTau) (aOid) (aR) (aDelta) (aId) (true) (bTau) (bOid) (bR) (bDelta) (bId)) != 2) then (bif ((dir (true) (bTau) (bOid) (bR) (bDelta) (bId) (false) (aTau) (aOid) (aR) (aDelta) (aId)) != 2) then (bif ((dir (false) (aTau) (aOid) (aR) (aDelta) (aId) (true) (bTau) (bOid) (bR) (bDelta) (bId)) == 1) then (bif ((dir (true) (bTau) (bOid) (bR) (bDelta) (bId) (false) (aTau) (aOid) (aR) (aDelta) (aId)) == 1) then (.bool false) else (.bool true)) else (.bool true)) else (.bool false)) else (.bool false)) else (.bool false))) else (bif ((chk (false) (aTau) (aOid) (aR) (aDelta) (aId)) == 0) then (bif ((chk (false) (bTau) (bOid) (bR) (bDelta) (bId)) == 0) then (bif (same23 (false) (aTau) (aOid) (aR) (aDelta) (aId) (false) (bTau) (bOid) (bR) (bDelta) (bId)) then (bif (awk ) then (bif ((dir (false) (aTau) (aOid) (aR) (aDelta) (aId) (false) (bTau) (bOid) (bR) (bDelta) (bId)) == 0) then (bif ((dir (false) (bTau) (bOid) (bR) (bDelta) (bId) (false) (aTau) (aOid) (aR) (aDelta) (aId)) == (dir (false) (aTau) (aOid) (aR) (aDelta) (aId) (false) (bTau) (bOid) (bR) (bDelta) (bId))) then (.bool true) else (.bool false)) else (.bool false)) else (.bool false)) else (bif (awk ) then (bif ((wrapF .i64 ((dir (false) (aTau) (aOid) (aR) (aDelta) (aId) (false) (bTau) (bOid) (bR) (bDelta) (bId)) + (dir (false) (bTau) (bOid) (bR) (bDelta) (bId) (false) (aTau) (aOid) (aR) (aDelta) (aId)))) == 3) then (bif ((dir (false) (aTau) (aOid) (aR) (aDelta) (aId) (false) (bTau) (bOid) (bR) (bDelta) (bId)) == 1) then (bif (less (false) (bTau) (bOid) (bR) (bDelta) (bId) (false) (aTau) (aOid) (aR) (aDelta) (aId)) then (.bool true) else (.bool false)) else (bif (less (false) (bTau) (bOid) (bR) (bDelta) (bId) (false) (aTau) (aOid) (aR) (aDelta) (aId)) then (.bool false) else (.bool true))) else (.bool false)) else (.bool false))) else (bif (awk ) then (bif ((dir (false) (aTau) (aOid) (aR) (aDelta) (aId) (false) (bTau) (bOid) (bR) (bDelta) (bId)) != 2) then (bif ((dir (false) (bTau) (bOid) (bR) (bDelta) (bId) (false) (aTau) (aOid) (aR) (aDelta) (aId)) != 2) then (bif ((dir (false) (aTau) (aOid) (aR) (aDelta) (aId) (false) (bTau) (bOid) (bR) (bDelta) (bId)) == 1) then (bif ((dir (false) (bTau) (bOid) (bR) (bDelta) (bId) (false) (aTau) (aOid) (aR) (aDelta) (aId)) == 1) then (.bool false) else (.bool true)) else (.bool true)) else (.bool false)) else (.bool false)) else (.bool false))) else (bif (awk ) then (bif ((dir (false) (aTau) (aOid) (aR) (aDelta) (aId) (false) (bTau) (bOid) (bR) (bDelta) (bId)) != 2) then (bif ((dir (false) (bTau) (bOid) (bR) (bDelta) (bId) (false) (aTau) (aOid) (aR) (aDelta) (aId)) != 2) then (bif ((dir (false) (aTau) (aOid) (aR) (aDelta) (aId) (false) (bTau) (bOid) (bR) (bDelta) (bId)) == 1) then (bif ((dir (false) (bTau) (bOid) (bR) (bDelta) (bId) (false) (aTau) (aOid) (aR) (aDelta) (aId)) == 1) then (.bool false) else (.bool true)) else (.bool true)) else (.bool false)) else (.bool false)) else (.bool false)))))
theorem tTurn_run (aNull : Bool) (aTau : Int) (aOid : Int) (aR : Int) (aDelta : Int) (aId : Int) (bNull : Bool) (bTau : Int) (bOid : Int) (bR : Int) (bDelta : Int) (bId : Int) : ∃ hp, aCall Try.prog E5 61 3 [.agg #[.bool aNull, .int .i64 aTau, .int .i64 aOid, .int .i64 aR, .int .i64 aDelta, .int .i64 aId], .agg #[.bool bNull, .int .i64 bTau, .int .i64 bOid, .int .i64 bR, .int .i64 bDelta, .int .i64 bId]] hp0 = some (tTurn aNull aTau aOid aR aDelta aId bNull bTau bOid bR bDelta bId, hp) := by
  cases aNull with
  | true =>
    cases bNull with
    | true =>
      cases h0 : ((chk (true) (aTau) (aOid) (aR) (aDelta) (aId)) == 0) with
      | true =>
        cases h1 : ((chk (true) (bTau) (bOid) (bR) (bDelta) (bId)) == 0) with
        | true =>
          cases h2 : (awk ) with
          | true =>
            cases h3 : ((dir (true) (aTau) (aOid) (aR) (aDelta) (aId) (true) (bTau) (bOid) (bR) (bDelta) (bId)) != 2) with
            | true =>
              cases h4 : ((dir (true) (bTau) (bOid) (bR) (bDelta) (bId) (true) (aTau) (aOid) (aR) (aDelta) (aId)) != 2) with
              | true =>
                cases h5 : ((dir (true) (aTau) (aOid) (aR) (aDelta) (aId) (true) (bTau) (bOid) (bR) (bDelta) (bId)) == 1) with
                | true =>
                  cases h6 : ((dir (true) (bTau) (bOid) (bR) (bDelta) (bId) (true) (aTau) (aOid) (aR) (aDelta) (aId)) == 1) with
                  | true =>
                    have e : tTurn true aTau aOid aR aDelta aId true bTau bOid bR bDelta bId = (.bool false) := by simp only [tTurn, h0, h1, h2, h3, h4, h5, h6, cond_true, cond_false]
                    rw [e]
                    exact callQ_run [(16, .bool true), (20, .bool true), (34, .bool true), (37, .bool true), (41, .bool true), (45, .bool true), (48, .bool true)] (q := [(some (.bool ((chk (true) (aTau) (aOid) (aR) (aDelta) (aId)) == 0)), .bool true), (some (.bool ((chk (true) (bTau) (bOid) (bR) (bDelta) (bId)) == 0)), .bool true), (some (.bool (awk )), .bool true), (some (.bool ((dir (true) (aTau) (aOid) (aR) (aDelta) (aId) (true) (bTau) (bOid) (bR) (bDelta) (bId)) != 2)), .bool true), (some (.bool ((dir (true) (bTau) (bOid) (bR) (bDelta) (bId) (true) (aTau) (aOid) (aR) (aDelta) (aId)) != 2)), .bool true), (some (.bool ((dir (true) (aTau) (aOid) (aR) (aDelta) (aId) (true) (bTau) (bOid) (bR) (bDelta) (bId)) == 1)), .bool true), (some (.bool ((dir (true) (bTau) (bOid) (bR) (bDelta) (bId) (true) (aTau) (aOid) (aR) (aDelta) (aId)) == 1)), .bool true)]) (by kernel_rfl) (Met.cons (met_bool h0) (Met.cons (met_bool h1) (Met.cons (met_bool h2) (Met.cons (met_bool h3) (Met.cons (met_bool h4) (Met.cons (met_bool h5) (Met.cons (met_bool h6) (Met.nil))))))))
                  | false =>
                    have e : tTurn true aTau aOid aR aDelta aId true bTau bOid bR bDelta bId = (.bool true) := by simp only [tTurn, h0, h1, h2, h3, h4, h5, h6, cond_true, cond_false]
                    rw [e]
                    exact callQ_run [(16, .bool true), (20, .bool true), (34, .bool true), (37, .bool true), (41, .bool true), (45, .bool true), (48, .bool false)] (q := [(some (.bool ((chk (true) (aTau) (aOid) (aR) (aDelta) (aId)) == 0)), .bool true), (some (.bool ((chk (true) (bTau) (bOid) (bR) (bDelta) (bId)) == 0)), .bool true), (some (.bool (awk )), .bool true), (some (.bool ((dir (true) (aTau) (aOid) (aR) (aDelta) (aId) (true) (bTau) (bOid) (bR) (bDelta) (bId)) != 2)), .bool true), (some (.bool ((dir (true) (bTau) (bOid) (bR) (bDelta) (bId) (true) (aTau) (aOid) (aR) (aDelta) (aId)) != 2)), .bool true), (some (.bool ((dir (true) (aTau) (aOid) (aR) (aDelta) (aId) (true) (bTau) (bOid) (bR) (bDelta) (bId)) == 1)), .bool true), (some (.bool ((dir (true) (bTau) (bOid) (bR) (bDelta) (bId) (true) (aTau) (aOid) (aR) (aDelta) (aId)) == 1)), .bool false)]) (by kernel_rfl) (Met.cons (met_bool h0) (Met.cons (met_bool h1) (Met.cons (met_bool h2) (Met.cons (met_bool h3) (Met.cons (met_bool h4) (Met.cons (met_bool h5) (Met.cons (met_bool h6) (Met.nil))))))))
                | false =>
                  have e : tTurn true aTau aOid aR aDelta aId true bTau bOid bR bDelta bId = (.bool true) := by simp only [tTurn, h0, h1, h2, h3, h4, h5, cond_true, cond_false]
                  rw [e]
                  exact callQ_run [(16, .bool true), (20, .bool true), (34, .bool true), (37, .bool true), (41, .bool true), (45, .bool false)] (q := [(some (.bool ((chk (true) (aTau) (aOid) (aR) (aDelta) (aId)) == 0)), .bool true), (some (.bool ((chk (true) (bTau) (bOid) (bR) (bDelta) (bId)) == 0)), .bool true), (some (.bool (awk )), .bool true), (some (.bool ((dir (true) (aTau) (aOid) (aR) (aDelta) (aId) (true) (bTau) (bOid) (bR) (bDelta) (bId)) != 2)), .bool true), (some (.bool ((dir (true) (bTau) (bOid) (bR) (bDelta) (bId) (true) (aTau) (aOid) (aR) (aDelta) (aId)) != 2)), .bool true), (some (.bool ((dir (true) (aTau) (aOid) (aR) (aDelta) (aId) (true) (bTau) (bOid) (bR) (bDelta) (bId)) == 1)), .bool false)]) (by kernel_rfl) (Met.cons (met_bool h0) (Met.cons (met_bool h1) (Met.cons (met_bool h2) (Met.cons (met_bool h3) (Met.cons (met_bool h4) (Met.cons (met_bool h5) (Met.nil)))))))
              | false =>
                have e : tTurn true aTau aOid aR aDelta aId true bTau bOid bR bDelta bId = (.bool false) := by simp only [tTurn, h0, h1, h2, h3, h4, cond_true, cond_false]
                rw [e]
                exact callQ_run [(16, .bool true), (20, .bool true), (34, .bool true), (37, .bool true), (41, .bool false)] (q := [(some (.bool ((chk (true) (aTau) (aOid) (aR) (aDelta) (aId)) == 0)), .bool true), (some (.bool ((chk (true) (bTau) (bOid) (bR) (bDelta) (bId)) == 0)), .bool true), (some (.bool (awk )), .bool true), (some (.bool ((dir (true) (aTau) (aOid) (aR) (aDelta) (aId) (true) (bTau) (bOid) (bR) (bDelta) (bId)) != 2)), .bool true), (some (.bool ((dir (true) (bTau) (bOid) (bR) (bDelta) (bId) (true) (aTau) (aOid) (aR) (aDelta) (aId)) != 2)), .bool false)]) (by kernel_rfl) (Met.cons (met_bool h0) (Met.cons (met_bool h1) (Met.cons (met_bool h2) (Met.cons (met_bool h3) (Met.cons (met_bool h4) (Met.nil))))))
            | false =>
              have e : tTurn true aTau aOid aR aDelta aId true bTau bOid bR bDelta bId = (.bool false) := by simp only [tTurn, h0, h1, h2, h3, cond_true, cond_false]
              rw [e]
              exact callQ_run [(16, .bool true), (20, .bool true), (34, .bool true), (37, .bool false)] (q := [(some (.bool ((chk (true) (aTau) (aOid) (aR) (aDelta) (aId)) == 0)), .bool true), (some (.bool ((chk (true) (bTau) (bOid) (bR) (bDelta) (bId)) == 0)), .bool true), (some (.bool (awk )), .bool true), (some (.bool ((dir (true) (aTau) (aOid) (aR) (aDelta) (aId) (true) (bTau) (bOid) (bR) (bDelta) (bId)) != 2)), .bool false)]) (by kernel_rfl) (Met.cons (met_bool h0) (Met.cons (met_bool h1) (Met.cons (met_bool h2) (Met.cons (met_bool h3) (Met.nil)))))
          | false =>
            have e : tTurn true aTau aOid aR aDelta aId true bTau bOid bR bDelta bId = (.bool false) := by simp only [tTurn, h0, h1, h2, cond_true, cond_false]
            rw [e]
            exact callQ_run [(16, .bool true), (20, .bool true), (34, .bool false)] (q := [(some (.bool ((chk (true) (aTau) (aOid) (aR) (aDelta) (aId)) == 0)), .bool true), (some (.bool ((chk (true) (bTau) (bOid) (bR) (bDelta) (bId)) == 0)), .bool true), (some (.bool (awk )), .bool false)]) (by kernel_rfl) (Met.cons (met_bool h0) (Met.cons (met_bool h1) (Met.cons (met_bool h2) (Met.nil))))
        | false =>
          cases h2 : (awk ) with
          | true =>
            cases h3 : ((dir (true) (aTau) (aOid) (aR) (aDelta) (aId) (true) (bTau) (bOid) (bR) (bDelta) (bId)) != 2) with
            | true =>
              cases h4 : ((dir (true) (bTau) (bOid) (bR) (bDelta) (bId) (true) (aTau) (aOid) (aR) (aDelta) (aId)) != 2) with
              | true =>
                cases h5 : ((dir (true) (aTau) (aOid) (aR) (aDelta) (aId) (true) (bTau) (bOid) (bR) (bDelta) (bId)) == 1) with
                | true =>
                  cases h6 : ((dir (true) (bTau) (bOid) (bR) (bDelta) (bId) (true) (aTau) (aOid) (aR) (aDelta) (aId)) == 1) with
                  | true =>
                    have e : tTurn true aTau aOid aR aDelta aId true bTau bOid bR bDelta bId = (.bool false) := by simp only [tTurn, h0, h1, h2, h3, h4, h5, h6, cond_true, cond_false]
                    rw [e]
                    exact callQ_run [(16, .bool true), (20, .bool false), (34, .bool true), (37, .bool true), (41, .bool true), (45, .bool true), (48, .bool true)] (q := [(some (.bool ((chk (true) (aTau) (aOid) (aR) (aDelta) (aId)) == 0)), .bool true), (some (.bool ((chk (true) (bTau) (bOid) (bR) (bDelta) (bId)) == 0)), .bool false), (some (.bool (awk )), .bool true), (some (.bool ((dir (true) (aTau) (aOid) (aR) (aDelta) (aId) (true) (bTau) (bOid) (bR) (bDelta) (bId)) != 2)), .bool true), (some (.bool ((dir (true) (bTau) (bOid) (bR) (bDelta) (bId) (true) (aTau) (aOid) (aR) (aDelta) (aId)) != 2)), .bool true), (some (.bool ((dir (true) (aTau) (aOid) (aR) (aDelta) (aId) (true) (bTau) (bOid) (bR) (bDelta) (bId)) == 1)), .bool true), (some (.bool ((dir (true) (bTau) (bOid) (bR) (bDelta) (bId) (true) (aTau) (aOid) (aR) (aDelta) (aId)) == 1)), .bool true)]) (by kernel_rfl) (Met.cons (met_bool h0) (Met.cons (met_bool h1) (Met.cons (met_bool h2) (Met.cons (met_bool h3) (Met.cons (met_bool h4) (Met.cons (met_bool h5) (Met.cons (met_bool h6) (Met.nil))))))))
                  | false =>
                    have e : tTurn true aTau aOid aR aDelta aId true bTau bOid bR bDelta bId = (.bool true) := by simp only [tTurn, h0, h1, h2, h3, h4, h5, h6, cond_true, cond_false]
                    rw [e]
                    exact callQ_run [(16, .bool true), (20, .bool false), (34, .bool true), (37, .bool true), (41, .bool true), (45, .bool true), (48, .bool false)] (q := [(some (.bool ((chk (true) (aTau) (aOid) (aR) (aDelta) (aId)) == 0)), .bool true), (some (.bool ((chk (true) (bTau) (bOid) (bR) (bDelta) (bId)) == 0)), .bool false), (some (.bool (awk )), .bool true), (some (.bool ((dir (true) (aTau) (aOid) (aR) (aDelta) (aId) (true) (bTau) (bOid) (bR) (bDelta) (bId)) != 2)), .bool true), (some (.bool ((dir (true) (bTau) (bOid) (bR) (bDelta) (bId) (true) (aTau) (aOid) (aR) (aDelta) (aId)) != 2)), .bool true), (some (.bool ((dir (true) (aTau) (aOid) (aR) (aDelta) (aId) (true) (bTau) (bOid) (bR) (bDelta) (bId)) == 1)), .bool true), (some (.bool ((dir (true) (bTau) (bOid) (bR) (bDelta) (bId) (true) (aTau) (aOid) (aR) (aDelta) (aId)) == 1)), .bool false)]) (by kernel_rfl) (Met.cons (met_bool h0) (Met.cons (met_bool h1) (Met.cons (met_bool h2) (Met.cons (met_bool h3) (Met.cons (met_bool h4) (Met.cons (met_bool h5) (Met.cons (met_bool h6) (Met.nil))))))))
                | false =>
                  have e : tTurn true aTau aOid aR aDelta aId true bTau bOid bR bDelta bId = (.bool true) := by simp only [tTurn, h0, h1, h2, h3, h4, h5, cond_true, cond_false]
                  rw [e]
                  exact callQ_run [(16, .bool true), (20, .bool false), (34, .bool true), (37, .bool true), (41, .bool true), (45, .bool false)] (q := [(some (.bool ((chk (true) (aTau) (aOid) (aR) (aDelta) (aId)) == 0)), .bool true), (some (.bool ((chk (true) (bTau) (bOid) (bR) (bDelta) (bId)) == 0)), .bool false), (some (.bool (awk )), .bool true), (some (.bool ((dir (true) (aTau) (aOid) (aR) (aDelta) (aId) (true) (bTau) (bOid) (bR) (bDelta) (bId)) != 2)), .bool true), (some (.bool ((dir (true) (bTau) (bOid) (bR) (bDelta) (bId) (true) (aTau) (aOid) (aR) (aDelta) (aId)) != 2)), .bool true), (some (.bool ((dir (true) (aTau) (aOid) (aR) (aDelta) (aId) (true) (bTau) (bOid) (bR) (bDelta) (bId)) == 1)), .bool false)]) (by kernel_rfl) (Met.cons (met_bool h0) (Met.cons (met_bool h1) (Met.cons (met_bool h2) (Met.cons (met_bool h3) (Met.cons (met_bool h4) (Met.cons (met_bool h5) (Met.nil)))))))
              | false =>
                have e : tTurn true aTau aOid aR aDelta aId true bTau bOid bR bDelta bId = (.bool false) := by simp only [tTurn, h0, h1, h2, h3, h4, cond_true, cond_false]
                rw [e]
                exact callQ_run [(16, .bool true), (20, .bool false), (34, .bool true), (37, .bool true), (41, .bool false)] (q := [(some (.bool ((chk (true) (aTau) (aOid) (aR) (aDelta) (aId)) == 0)), .bool true), (some (.bool ((chk (true) (bTau) (bOid) (bR) (bDelta) (bId)) == 0)), .bool false), (some (.bool (awk )), .bool true), (some (.bool ((dir (true) (aTau) (aOid) (aR) (aDelta) (aId) (true) (bTau) (bOid) (bR) (bDelta) (bId)) != 2)), .bool true), (some (.bool ((dir (true) (bTau) (bOid) (bR) (bDelta) (bId) (true) (aTau) (aOid) (aR) (aDelta) (aId)) != 2)), .bool false)]) (by kernel_rfl) (Met.cons (met_bool h0) (Met.cons (met_bool h1) (Met.cons (met_bool h2) (Met.cons (met_bool h3) (Met.cons (met_bool h4) (Met.nil))))))
            | false =>
              have e : tTurn true aTau aOid aR aDelta aId true bTau bOid bR bDelta bId = (.bool false) := by simp only [tTurn, h0, h1, h2, h3, cond_true, cond_false]
              rw [e]
              exact callQ_run [(16, .bool true), (20, .bool false), (34, .bool true), (37, .bool false)] (q := [(some (.bool ((chk (true) (aTau) (aOid) (aR) (aDelta) (aId)) == 0)), .bool true), (some (.bool ((chk (true) (bTau) (bOid) (bR) (bDelta) (bId)) == 0)), .bool false), (some (.bool (awk )), .bool true), (some (.bool ((dir (true) (aTau) (aOid) (aR) (aDelta) (aId) (true) (bTau) (bOid) (bR) (bDelta) (bId)) != 2)), .bool false)]) (by kernel_rfl) (Met.cons (met_bool h0) (Met.cons (met_bool h1) (Met.cons (met_bool h2) (Met.cons (met_bool h3) (Met.nil)))))
          | false =>
            have e : tTurn true aTau aOid aR aDelta aId true bTau bOid bR bDelta bId = (.bool false) := by simp only [tTurn, h0, h1, h2, cond_true, cond_false]
            rw [e]
            exact callQ_run [(16, .bool true), (20, .bool false), (34, .bool false)] (q := [(some (.bool ((chk (true) (aTau) (aOid) (aR) (aDelta) (aId)) == 0)), .bool true), (some (.bool ((chk (true) (bTau) (bOid) (bR) (bDelta) (bId)) == 0)), .bool false), (some (.bool (awk )), .bool false)]) (by kernel_rfl) (Met.cons (met_bool h0) (Met.cons (met_bool h1) (Met.cons (met_bool h2) (Met.nil))))
      | false =>
        cases h1 : (awk ) with
        | true =>
          cases h2 : ((dir (true) (aTau) (aOid) (aR) (aDelta) (aId) (true) (bTau) (bOid) (bR) (bDelta) (bId)) != 2) with
          | true =>
            cases h3 : ((dir (true) (bTau) (bOid) (bR) (bDelta) (bId) (true) (aTau) (aOid) (aR) (aDelta) (aId)) != 2) with
            | true =>
              cases h4 : ((dir (true) (aTau) (aOid) (aR) (aDelta) (aId) (true) (bTau) (bOid) (bR) (bDelta) (bId)) == 1) with
              | true =>
                cases h5 : ((dir (true) (bTau) (bOid) (bR) (bDelta) (bId) (true) (aTau) (aOid) (aR) (aDelta) (aId)) == 1) with
                | true =>
                  have e : tTurn true aTau aOid aR aDelta aId true bTau bOid bR bDelta bId = (.bool false) := by simp only [tTurn, h0, h1, h2, h3, h4, h5, cond_true, cond_false]
                  rw [e]
                  exact callQ_run [(16, .bool false), (34, .bool true), (37, .bool true), (41, .bool true), (45, .bool true), (48, .bool true)] (q := [(some (.bool ((chk (true) (aTau) (aOid) (aR) (aDelta) (aId)) == 0)), .bool false), (some (.bool (awk )), .bool true), (some (.bool ((dir (true) (aTau) (aOid) (aR) (aDelta) (aId) (true) (bTau) (bOid) (bR) (bDelta) (bId)) != 2)), .bool true), (some (.bool ((dir (true) (bTau) (bOid) (bR) (bDelta) (bId) (true) (aTau) (aOid) (aR) (aDelta) (aId)) != 2)), .bool true), (some (.bool ((dir (true) (aTau) (aOid) (aR) (aDelta) (aId) (true) (bTau) (bOid) (bR) (bDelta) (bId)) == 1)), .bool true), (some (.bool ((dir (true) (bTau) (bOid) (bR) (bDelta) (bId) (true) (aTau) (aOid) (aR) (aDelta) (aId)) == 1)), .bool true)]) (by kernel_rfl) (Met.cons (met_bool h0) (Met.cons (met_bool h1) (Met.cons (met_bool h2) (Met.cons (met_bool h3) (Met.cons (met_bool h4) (Met.cons (met_bool h5) (Met.nil)))))))
                | false =>
                  have e : tTurn true aTau aOid aR aDelta aId true bTau bOid bR bDelta bId = (.bool true) := by simp only [tTurn, h0, h1, h2, h3, h4, h5, cond_true, cond_false]
                  rw [e]
                  exact callQ_run [(16, .bool false), (34, .bool true), (37, .bool true), (41, .bool true), (45, .bool true), (48, .bool false)] (q := [(some (.bool ((chk (true) (aTau) (aOid) (aR) (aDelta) (aId)) == 0)), .bool false), (some (.bool (awk )), .bool true), (some (.bool ((dir (true) (aTau) (aOid) (aR) (aDelta) (aId) (true) (bTau) (bOid) (bR) (bDelta) (bId)) != 2)), .bool true), (some (.bool ((dir (true) (bTau) (bOid) (bR) (bDelta) (bId) (true) (aTau) (aOid) (aR) (aDelta) (aId)) != 2)), .bool true), (some (.bool ((dir (true) (aTau) (aOid) (aR) (aDelta) (aId) (true) (bTau) (bOid) (bR) (bDelta) (bId)) == 1)), .bool true), (some (.bool ((dir (true) (bTau) (bOid) (bR) (bDelta) (bId) (true) (aTau) (aOid) (aR) (aDelta) (aId)) == 1)), .bool false)]) (by kernel_rfl) (Met.cons (met_bool h0) (Met.cons (met_bool h1) (Met.cons (met_bool h2) (Met.cons (met_bool h3) (Met.cons (met_bool h4) (Met.cons (met_bool h5) (Met.nil)))))))
              | false =>
                have e : tTurn true aTau aOid aR aDelta aId true bTau bOid bR bDelta bId = (.bool true) := by simp only [tTurn, h0, h1, h2, h3, h4, cond_true, cond_false]
                rw [e]
                exact callQ_run [(16, .bool false), (34, .bool true), (37, .bool true), (41, .bool true), (45, .bool false)] (q := [(some (.bool ((chk (true) (aTau) (aOid) (aR) (aDelta) (aId)) == 0)), .bool false), (some (.bool (awk )), .bool true), (some (.bool ((dir (true) (aTau) (aOid) (aR) (aDelta) (aId) (true) (bTau) (bOid) (bR) (bDelta) (bId)) != 2)), .bool true), (some (.bool ((dir (true) (bTau) (bOid) (bR) (bDelta) (bId) (true) (aTau) (aOid) (aR) (aDelta) (aId)) != 2)), .bool true), (some (.bool ((dir (true) (aTau) (aOid) (aR) (aDelta) (aId) (true) (bTau) (bOid) (bR) (bDelta) (bId)) == 1)), .bool false)]) (by kernel_rfl) (Met.cons (met_bool h0) (Met.cons (met_bool h1) (Met.cons (met_bool h2) (Met.cons (met_bool h3) (Met.cons (met_bool h4) (Met.nil))))))
            | false =>
              have e : tTurn true aTau aOid aR aDelta aId true bTau bOid bR bDelta bId = (.bool false) := by simp only [tTurn, h0, h1, h2, h3, cond_true, cond_false]
              rw [e]
              exact callQ_run [(16, .bool false), (34, .bool true), (37, .bool true), (41, .bool false)] (q := [(some (.bool ((chk (true) (aTau) (aOid) (aR) (aDelta) (aId)) == 0)), .bool false), (some (.bool (awk )), .bool true), (some (.bool ((dir (true) (aTau) (aOid) (aR) (aDelta) (aId) (true) (bTau) (bOid) (bR) (bDelta) (bId)) != 2)), .bool true), (some (.bool ((dir (true) (bTau) (bOid) (bR) (bDelta) (bId) (true) (aTau) (aOid) (aR) (aDelta) (aId)) != 2)), .bool false)]) (by kernel_rfl) (Met.cons (met_bool h0) (Met.cons (met_bool h1) (Met.cons (met_bool h2) (Met.cons (met_bool h3) (Met.nil)))))
          | false =>
            have e : tTurn true aTau aOid aR aDelta aId true bTau bOid bR bDelta bId = (.bool false) := by simp only [tTurn, h0, h1, h2, cond_true, cond_false]
            rw [e]
            exact callQ_run [(16, .bool false), (34, .bool true), (37, .bool false)] (q := [(some (.bool ((chk (true) (aTau) (aOid) (aR) (aDelta) (aId)) == 0)), .bool false), (some (.bool (awk )), .bool true), (some (.bool ((dir (true) (aTau) (aOid) (aR) (aDelta) (aId) (true) (bTau) (bOid) (bR) (bDelta) (bId)) != 2)), .bool false)]) (by kernel_rfl) (Met.cons (met_bool h0) (Met.cons (met_bool h1) (Met.cons (met_bool h2) (Met.nil))))
        | false =>
          have e : tTurn true aTau aOid aR aDelta aId true bTau bOid bR bDelta bId = (.bool false) := by simp only [tTurn, h0, h1, cond_true, cond_false]
          rw [e]
          exact callQ_run [(16, .bool false), (34, .bool false)] (q := [(some (.bool ((chk (true) (aTau) (aOid) (aR) (aDelta) (aId)) == 0)), .bool false), (some (.bool (awk )), .bool false)]) (by kernel_rfl) (Met.cons (met_bool h0) (Met.cons (met_bool h1) (Met.nil)))
    | false =>
      cases h0 : ((chk (true) (aTau) (aOid) (aR) (aDelta) (aId)) == 0) with
      | true =>
        cases h1 : ((chk (false) (bTau) (bOid) (bR) (bDelta) (bId)) == 0) with
        | true =>
          cases h2 : (awk ) with
          | true =>
            cases h3 : ((dir (true) (aTau) (aOid) (aR) (aDelta) (aId) (false) (bTau) (bOid) (bR) (bDelta) (bId)) != 2) with
            | true =>
              cases h4 : ((dir (false) (bTau) (bOid) (bR) (bDelta) (bId) (true) (aTau) (aOid) (aR) (aDelta) (aId)) != 2) with
              | true =>
                cases h5 : ((dir (true) (aTau) (aOid) (aR) (aDelta) (aId) (false) (bTau) (bOid) (bR) (bDelta) (bId)) == 1) with
                | true =>
                  cases h6 : ((dir (false) (bTau) (bOid) (bR) (bDelta) (bId) (true) (aTau) (aOid) (aR) (aDelta) (aId)) == 1) with
                  | true =>
                    have e : tTurn true aTau aOid aR aDelta aId false bTau bOid bR bDelta bId = (.bool false) := by simp only [tTurn, h0, h1, h2, h3, h4, h5, h6, cond_true, cond_false]
                    rw [e]
                    exact callQ_run [(16, .bool true), (20, .bool true), (34, .bool true), (37, .bool true), (41, .bool true), (45, .bool true), (48, .bool true)] (q := [(some (.bool ((chk (true) (aTau) (aOid) (aR) (aDelta) (aId)) == 0)), .bool true), (some (.bool ((chk (false) (bTau) (bOid) (bR) (bDelta) (bId)) == 0)), .bool true), (some (.bool (awk )), .bool true), (some (.bool ((dir (true) (aTau) (aOid) (aR) (aDelta) (aId) (false) (bTau) (bOid) (bR) (bDelta) (bId)) != 2)), .bool true), (some (.bool ((dir (false) (bTau) (bOid) (bR) (bDelta) (bId) (true) (aTau) (aOid) (aR) (aDelta) (aId)) != 2)), .bool true), (some (.bool ((dir (true) (aTau) (aOid) (aR) (aDelta) (aId) (false) (bTau) (bOid) (bR) (bDelta) (bId)) == 1)), .bool true), (some (.bool ((dir (false) (bTau) (bOid) (bR) (bDelta) (bId) (true) (aTau) (aOid) (aR) (aDelta) (aId)) == 1)), .bool true)]) (by kernel_rfl) (Met.cons (met_bool h0) (Met.cons (met_bool h1) (Met.cons (met_bool h2) (Met.cons (met_bool h3) (Met.cons (met_bool h4) (Met.cons (met_bool h5) (Met.cons (met_bool h6) (Met.nil))))))))
                  | false =>
                    have e : tTurn true aTau aOid aR aDelta aId false bTau bOid bR bDelta bId = (.bool true) := by simp only [tTurn, h0, h1, h2, h3, h4, h5, h6, cond_true, cond_false]
                    rw [e]
                    exact callQ_run [(16, .bool true), (20, .bool true), (34, .bool true), (37, .bool true), (41, .bool true), (45, .bool true), (48, .bool false)] (q := [(some (.bool ((chk (true) (aTau) (aOid) (aR) (aDelta) (aId)) == 0)), .bool true), (some (.bool ((chk (false) (bTau) (bOid) (bR) (bDelta) (bId)) == 0)), .bool true), (some (.bool (awk )), .bool true), (some (.bool ((dir (true) (aTau) (aOid) (aR) (aDelta) (aId) (false) (bTau) (bOid) (bR) (bDelta) (bId)) != 2)), .bool true), (some (.bool ((dir (false) (bTau) (bOid) (bR) (bDelta) (bId) (true) (aTau) (aOid) (aR) (aDelta) (aId)) != 2)), .bool true), (some (.bool ((dir (true) (aTau) (aOid) (aR) (aDelta) (aId) (false) (bTau) (bOid) (bR) (bDelta) (bId)) == 1)), .bool true), (some (.bool ((dir (false) (bTau) (bOid) (bR) (bDelta) (bId) (true) (aTau) (aOid) (aR) (aDelta) (aId)) == 1)), .bool false)]) (by kernel_rfl) (Met.cons (met_bool h0) (Met.cons (met_bool h1) (Met.cons (met_bool h2) (Met.cons (met_bool h3) (Met.cons (met_bool h4) (Met.cons (met_bool h5) (Met.cons (met_bool h6) (Met.nil))))))))
                | false =>
                  have e : tTurn true aTau aOid aR aDelta aId false bTau bOid bR bDelta bId = (.bool true) := by simp only [tTurn, h0, h1, h2, h3, h4, h5, cond_true, cond_false]
                  rw [e]
                  exact callQ_run [(16, .bool true), (20, .bool true), (34, .bool true), (37, .bool true), (41, .bool true), (45, .bool false)] (q := [(some (.bool ((chk (true) (aTau) (aOid) (aR) (aDelta) (aId)) == 0)), .bool true), (some (.bool ((chk (false) (bTau) (bOid) (bR) (bDelta) (bId)) == 0)), .bool true), (some (.bool (awk )), .bool true), (some (.bool ((dir (true) (aTau) (aOid) (aR) (aDelta) (aId) (false) (bTau) (bOid) (bR) (bDelta) (bId)) != 2)), .bool true), (some (.bool ((dir (false) (bTau) (bOid) (bR) (bDelta) (bId) (true) (aTau) (aOid) (aR) (aDelta) (aId)) != 2)), .bool true), (some (.bool ((dir (true) (aTau) (aOid) (aR) (aDelta) (aId) (false) (bTau) (bOid) (bR) (bDelta) (bId)) == 1)), .bool false)]) (by kernel_rfl) (Met.cons (met_bool h0) (Met.cons (met_bool h1) (Met.cons (met_bool h2) (Met.cons (met_bool h3) (Met.cons (met_bool h4) (Met.cons (met_bool h5) (Met.nil)))))))
              | false =>
                have e : tTurn true aTau aOid aR aDelta aId false bTau bOid bR bDelta bId = (.bool false) := by simp only [tTurn, h0, h1, h2, h3, h4, cond_true, cond_false]
                rw [e]
                exact callQ_run [(16, .bool true), (20, .bool true), (34, .bool true), (37, .bool true), (41, .bool false)] (q := [(some (.bool ((chk (true) (aTau) (aOid) (aR) (aDelta) (aId)) == 0)), .bool true), (some (.bool ((chk (false) (bTau) (bOid) (bR) (bDelta) (bId)) == 0)), .bool true), (some (.bool (awk )), .bool true), (some (.bool ((dir (true) (aTau) (aOid) (aR) (aDelta) (aId) (false) (bTau) (bOid) (bR) (bDelta) (bId)) != 2)), .bool true), (some (.bool ((dir (false) (bTau) (bOid) (bR) (bDelta) (bId) (true) (aTau) (aOid) (aR) (aDelta) (aId)) != 2)), .bool false)]) (by kernel_rfl) (Met.cons (met_bool h0) (Met.cons (met_bool h1) (Met.cons (met_bool h2) (Met.cons (met_bool h3) (Met.cons (met_bool h4) (Met.nil))))))
            | false =>
              have e : tTurn true aTau aOid aR aDelta aId false bTau bOid bR bDelta bId = (.bool false) := by simp only [tTurn, h0, h1, h2, h3, cond_true, cond_false]
              rw [e]
              exact callQ_run [(16, .bool true), (20, .bool true), (34, .bool true), (37, .bool false)] (q := [(some (.bool ((chk (true) (aTau) (aOid) (aR) (aDelta) (aId)) == 0)), .bool true), (some (.bool ((chk (false) (bTau) (bOid) (bR) (bDelta) (bId)) == 0)), .bool true), (some (.bool (awk )), .bool true), (some (.bool ((dir (true) (aTau) (aOid) (aR) (aDelta) (aId) (false) (bTau) (bOid) (bR) (bDelta) (bId)) != 2)), .bool false)]) (by kernel_rfl) (Met.cons (met_bool h0) (Met.cons (met_bool h1) (Met.cons (met_bool h2) (Met.cons (met_bool h3) (Met.nil)))))
          | false =>
            have e : tTurn true aTau aOid aR aDelta aId false bTau bOid bR bDelta bId = (.bool false) := by simp only [tTurn, h0, h1, h2, cond_true, cond_false]
            rw [e]
            exact callQ_run [(16, .bool true), (20, .bool true), (34, .bool false)] (q := [(some (.bool ((chk (true) (aTau) (aOid) (aR) (aDelta) (aId)) == 0)), .bool true), (some (.bool ((chk (false) (bTau) (bOid) (bR) (bDelta) (bId)) == 0)), .bool true), (some (.bool (awk )), .bool false)]) (by kernel_rfl) (Met.cons (met_bool h0) (Met.cons (met_bool h1) (Met.cons (met_bool h2) (Met.nil))))
        | false =>
          cases h2 : (awk ) with
          | true =>
            cases h3 : ((dir (true) (aTau) (aOid) (aR) (aDelta) (aId) (false) (bTau) (bOid) (bR) (bDelta) (bId)) != 2) with
            | true =>
              cases h4 : ((dir (false) (bTau) (bOid) (bR) (bDelta) (bId) (true) (aTau) (aOid) (aR) (aDelta) (aId)) != 2) with
              | true =>
                cases h5 : ((dir (true) (aTau) (aOid) (aR) (aDelta) (aId) (false) (bTau) (bOid) (bR) (bDelta) (bId)) == 1) with
                | true =>
                  cases h6 : ((dir (false) (bTau) (bOid) (bR) (bDelta) (bId) (true) (aTau) (aOid) (aR) (aDelta) (aId)) == 1) with
                  | true =>
                    have e : tTurn true aTau aOid aR aDelta aId false bTau bOid bR bDelta bId = (.bool false) := by simp only [tTurn, h0, h1, h2, h3, h4, h5, h6, cond_true, cond_false]
                    rw [e]
                    exact callQ_run [(16, .bool true), (20, .bool false), (34, .bool true), (37, .bool true), (41, .bool true), (45, .bool true), (48, .bool true)] (q := [(some (.bool ((chk (true) (aTau) (aOid) (aR) (aDelta) (aId)) == 0)), .bool true), (some (.bool ((chk (false) (bTau) (bOid) (bR) (bDelta) (bId)) == 0)), .bool false), (some (.bool (awk )), .bool true), (some (.bool ((dir (true) (aTau) (aOid) (aR) (aDelta) (aId) (false) (bTau) (bOid) (bR) (bDelta) (bId)) != 2)), .bool true), (some (.bool ((dir (false) (bTau) (bOid) (bR) (bDelta) (bId) (true) (aTau) (aOid) (aR) (aDelta) (aId)) != 2)), .bool true), (some (.bool ((dir (true) (aTau) (aOid) (aR) (aDelta) (aId) (false) (bTau) (bOid) (bR) (bDelta) (bId)) == 1)), .bool true), (some (.bool ((dir (false) (bTau) (bOid) (bR) (bDelta) (bId) (true) (aTau) (aOid) (aR) (aDelta) (aId)) == 1)), .bool true)]) (by kernel_rfl) (Met.cons (met_bool h0) (Met.cons (met_bool h1) (Met.cons (met_bool h2) (Met.cons (met_bool h3) (Met.cons (met_bool h4) (Met.cons (met_bool h5) (Met.cons (met_bool h6) (Met.nil))))))))
                  | false =>
                    have e : tTurn true aTau aOid aR aDelta aId false bTau bOid bR bDelta bId = (.bool true) := by simp only [tTurn, h0, h1, h2, h3, h4, h5, h6, cond_true, cond_false]
                    rw [e]
                    exact callQ_run [(16, .bool true), (20, .bool false), (34, .bool true), (37, .bool true), (41, .bool true), (45, .bool true), (48, .bool false)] (q := [(some (.bool ((chk (true) (aTau) (aOid) (aR) (aDelta) (aId)) == 0)), .bool true), (some (.bool ((chk (false) (bTau) (bOid) (bR) (bDelta) (bId)) == 0)), .bool false), (some (.bool (awk )), .bool true), (some (.bool ((dir (true) (aTau) (aOid) (aR) (aDelta) (aId) (false) (bTau) (bOid) (bR) (bDelta) (bId)) != 2)), .bool true), (some (.bool ((dir (false) (bTau) (bOid) (bR) (bDelta) (bId) (true) (aTau) (aOid) (aR) (aDelta) (aId)) != 2)), .bool true), (some (.bool ((dir (true) (aTau) (aOid) (aR) (aDelta) (aId) (false) (bTau) (bOid) (bR) (bDelta) (bId)) == 1)), .bool true), (some (.bool ((dir (false) (bTau) (bOid) (bR) (bDelta) (bId) (true) (aTau) (aOid) (aR) (aDelta) (aId)) == 1)), .bool false)]) (by kernel_rfl) (Met.cons (met_bool h0) (Met.cons (met_bool h1) (Met.cons (met_bool h2) (Met.cons (met_bool h3) (Met.cons (met_bool h4) (Met.cons (met_bool h5) (Met.cons (met_bool h6) (Met.nil))))))))
                | false =>
                  have e : tTurn true aTau aOid aR aDelta aId false bTau bOid bR bDelta bId = (.bool true) := by simp only [tTurn, h0, h1, h2, h3, h4, h5, cond_true, cond_false]
                  rw [e]
                  exact callQ_run [(16, .bool true), (20, .bool false), (34, .bool true), (37, .bool true), (41, .bool true), (45, .bool false)] (q := [(some (.bool ((chk (true) (aTau) (aOid) (aR) (aDelta) (aId)) == 0)), .bool true), (some (.bool ((chk (false) (bTau) (bOid) (bR) (bDelta) (bId)) == 0)), .bool false), (some (.bool (awk )), .bool true), (some (.bool ((dir (true) (aTau) (aOid) (aR) (aDelta) (aId) (false) (bTau) (bOid) (bR) (bDelta) (bId)) != 2)), .bool true), (some (.bool ((dir (false) (bTau) (bOid) (bR) (bDelta) (bId) (true) (aTau) (aOid) (aR) (aDelta) (aId)) != 2)), .bool true), (some (.bool ((dir (true) (aTau) (aOid) (aR) (aDelta) (aId) (false) (bTau) (bOid) (bR) (bDelta) (bId)) == 1)), .bool false)]) (by kernel_rfl) (Met.cons (met_bool h0) (Met.cons (met_bool h1) (Met.cons (met_bool h2) (Met.cons (met_bool h3) (Met.cons (met_bool h4) (Met.cons (met_bool h5) (Met.nil)))))))
              | false =>
                have e : tTurn true aTau aOid aR aDelta aId false bTau bOid bR bDelta bId = (.bool false) := by simp only [tTurn, h0, h1, h2, h3, h4, cond_true, cond_false]
                rw [e]
                exact callQ_run [(16, .bool true), (20, .bool false), (34, .bool true), (37, .bool true), (41, .bool false)] (q := [(some (.bool ((chk (true) (aTau) (aOid) (aR) (aDelta) (aId)) == 0)), .bool true), (some (.bool ((chk (false) (bTau) (bOid) (bR) (bDelta) (bId)) == 0)), .bool false), (some (.bool (awk )), .bool true), (some (.bool ((dir (true) (aTau) (aOid) (aR) (aDelta) (aId) (false) (bTau) (bOid) (bR) (bDelta) (bId)) != 2)), .bool true), (some (.bool ((dir (false) (bTau) (bOid) (bR) (bDelta) (bId) (true) (aTau) (aOid) (aR) (aDelta) (aId)) != 2)), .bool false)]) (by kernel_rfl) (Met.cons (met_bool h0) (Met.cons (met_bool h1) (Met.cons (met_bool h2) (Met.cons (met_bool h3) (Met.cons (met_bool h4) (Met.nil))))))
            | false =>
              have e : tTurn true aTau aOid aR aDelta aId false bTau bOid bR bDelta bId = (.bool false) := by simp only [tTurn, h0, h1, h2, h3, cond_true, cond_false]
              rw [e]
              exact callQ_run [(16, .bool true), (20, .bool false), (34, .bool true), (37, .bool false)] (q := [(some (.bool ((chk (true) (aTau) (aOid) (aR) (aDelta) (aId)) == 0)), .bool true), (some (.bool ((chk (false) (bTau) (bOid) (bR) (bDelta) (bId)) == 0)), .bool false), (some (.bool (awk )), .bool true), (some (.bool ((dir (true) (aTau) (aOid) (aR) (aDelta) (aId) (false) (bTau) (bOid) (bR) (bDelta) (bId)) != 2)), .bool false)]) (by kernel_rfl) (Met.cons (met_bool h0) (Met.cons (met_bool h1) (Met.cons (met_bool h2) (Met.cons (met_bool h3) (Met.nil)))))
          | false =>
            have e : tTurn true aTau aOid aR aDelta aId false bTau bOid bR bDelta bId = (.bool false) := by simp only [tTurn, h0, h1, h2, cond_true, cond_false]
            rw [e]
            exact callQ_run [(16, .bool true), (20, .bool false), (34, .bool false)] (q := [(some (.bool ((chk (true) (aTau) (aOid) (aR) (aDelta) (aId)) == 0)), .bool true), (some (.bool ((chk (false) (bTau) (bOid) (bR) (bDelta) (bId)) == 0)), .bool false), (some (.bool (awk )), .bool false)]) (by kernel_rfl) (Met.cons (met_bool h0) (Met.cons (met_bool h1) (Met.cons (met_bool h2) (Met.nil))))
      | false =>
        cases h1 : (awk ) with
        | true =>
          cases h2 : ((dir (true) (aTau) (aOid) (aR) (aDelta) (aId) (false) (bTau) (bOid) (bR) (bDelta) (bId)) != 2) with
          | true =>
            cases h3 : ((dir (false) (bTau) (bOid) (bR) (bDelta) (bId) (true) (aTau) (aOid) (aR) (aDelta) (aId)) != 2) with
            | true =>
              cases h4 : ((dir (true) (aTau) (aOid) (aR) (aDelta) (aId) (false) (bTau) (bOid) (bR) (bDelta) (bId)) == 1) with
              | true =>
                cases h5 : ((dir (false) (bTau) (bOid) (bR) (bDelta) (bId) (true) (aTau) (aOid) (aR) (aDelta) (aId)) == 1) with
                | true =>
                  have e : tTurn true aTau aOid aR aDelta aId false bTau bOid bR bDelta bId = (.bool false) := by simp only [tTurn, h0, h1, h2, h3, h4, h5, cond_true, cond_false]
                  rw [e]
                  exact callQ_run [(16, .bool false), (34, .bool true), (37, .bool true), (41, .bool true), (45, .bool true), (48, .bool true)] (q := [(some (.bool ((chk (true) (aTau) (aOid) (aR) (aDelta) (aId)) == 0)), .bool false), (some (.bool (awk )), .bool true), (some (.bool ((dir (true) (aTau) (aOid) (aR) (aDelta) (aId) (false) (bTau) (bOid) (bR) (bDelta) (bId)) != 2)), .bool true), (some (.bool ((dir (false) (bTau) (bOid) (bR) (bDelta) (bId) (true) (aTau) (aOid) (aR) (aDelta) (aId)) != 2)), .bool true), (some (.bool ((dir (true) (aTau) (aOid) (aR) (aDelta) (aId) (false) (bTau) (bOid) (bR) (bDelta) (bId)) == 1)), .bool true), (some (.bool ((dir (false) (bTau) (bOid) (bR) (bDelta) (bId) (true) (aTau) (aOid) (aR) (aDelta) (aId)) == 1)), .bool true)]) (by kernel_rfl) (Met.cons (met_bool h0) (Met.cons (met_bool h1) (Met.cons (met_bool h2) (Met.cons (met_bool h3) (Met.cons (met_bool h4) (Met.cons (met_bool h5) (Met.nil)))))))
                | false =>
                  have e : tTurn true aTau aOid aR aDelta aId false bTau bOid bR bDelta bId = (.bool true) := by simp only [tTurn, h0, h1, h2, h3, h4, h5, cond_true, cond_false]
                  rw [e]
                  exact callQ_run [(16, .bool false), (34, .bool true), (37, .bool true), (41, .bool true), (45, .bool true), (48, .bool false)] (q := [(some (.bool ((chk (true) (aTau) (aOid) (aR) (aDelta) (aId)) == 0)), .bool false), (some (.bool (awk )), .bool true), (some (.bool ((dir (true) (aTau) (aOid) (aR) (aDelta) (aId) (false) (bTau) (bOid) (bR) (bDelta) (bId)) != 2)), .bool true), (some (.bool ((dir (false) (bTau) (bOid) (bR) (bDelta) (bId) (true) (aTau) (aOid) (aR) (aDelta) (aId)) != 2)), .bool true), (some (.bool ((dir (true) (aTau) (aOid) (aR) (aDelta) (aId) (false) (bTau) (bOid) (bR) (bDelta) (bId)) == 1)), .bool true), (some (.bool ((dir (false) (bTau) (bOid) (bR) (bDelta) (bId) (true) (aTau) (aOid) (aR) (aDelta) (aId)) == 1)), .bool false)]) (by kernel_rfl) (Met.cons (met_bool h0) (Met.cons (met_bool h1) (Met.cons (met_bool h2) (Met.cons (met_bool h3) (Met.cons (met_bool h4) (Met.cons (met_bool h5) (Met.nil)))))))
              | false =>
                have e : tTurn true aTau aOid aR aDelta aId false bTau bOid bR bDelta bId = (.bool true) := by simp only [tTurn, h0, h1, h2, h3, h4, cond_true, cond_false]
                rw [e]
                exact callQ_run [(16, .bool false), (34, .bool true), (37, .bool true), (41, .bool true), (45, .bool false)] (q := [(some (.bool ((chk (true) (aTau) (aOid) (aR) (aDelta) (aId)) == 0)), .bool false), (some (.bool (awk )), .bool true), (some (.bool ((dir (true) (aTau) (aOid) (aR) (aDelta) (aId) (false) (bTau) (bOid) (bR) (bDelta) (bId)) != 2)), .bool true), (some (.bool ((dir (false) (bTau) (bOid) (bR) (bDelta) (bId) (true) (aTau) (aOid) (aR) (aDelta) (aId)) != 2)), .bool true), (some (.bool ((dir (true) (aTau) (aOid) (aR) (aDelta) (aId) (false) (bTau) (bOid) (bR) (bDelta) (bId)) == 1)), .bool false)]) (by kernel_rfl) (Met.cons (met_bool h0) (Met.cons (met_bool h1) (Met.cons (met_bool h2) (Met.cons (met_bool h3) (Met.cons (met_bool h4) (Met.nil))))))
            | false =>
              have e : tTurn true aTau aOid aR aDelta aId false bTau bOid bR bDelta bId = (.bool false) := by simp only [tTurn, h0, h1, h2, h3, cond_true, cond_false]
              rw [e]
              exact callQ_run [(16, .bool false), (34, .bool true), (37, .bool true), (41, .bool false)] (q := [(some (.bool ((chk (true) (aTau) (aOid) (aR) (aDelta) (aId)) == 0)), .bool false), (some (.bool (awk )), .bool true), (some (.bool ((dir (true) (aTau) (aOid) (aR) (aDelta) (aId) (false) (bTau) (bOid) (bR) (bDelta) (bId)) != 2)), .bool true), (some (.bool ((dir (false) (bTau) (bOid) (bR) (bDelta) (bId) (true) (aTau) (aOid) (aR) (aDelta) (aId)) != 2)), .bool false)]) (by kernel_rfl) (Met.cons (met_bool h0) (Met.cons (met_bool h1) (Met.cons (met_bool h2) (Met.cons (met_bool h3) (Met.nil)))))
          | false =>
            have e : tTurn true aTau aOid aR aDelta aId false bTau bOid bR bDelta bId = (.bool false) := by simp only [tTurn, h0, h1, h2, cond_true, cond_false]
            rw [e]
            exact callQ_run [(16, .bool false), (34, .bool true), (37, .bool false)] (q := [(some (.bool ((chk (true) (aTau) (aOid) (aR) (aDelta) (aId)) == 0)), .bool false), (some (.bool (awk )), .bool true), (some (.bool ((dir (true) (aTau) (aOid) (aR) (aDelta) (aId) (false) (bTau) (bOid) (bR) (bDelta) (bId)) != 2)), .bool false)]) (by kernel_rfl) (Met.cons (met_bool h0) (Met.cons (met_bool h1) (Met.cons (met_bool h2) (Met.nil))))
        | false =>
          have e : tTurn true aTau aOid aR aDelta aId false bTau bOid bR bDelta bId = (.bool false) := by simp only [tTurn, h0, h1, cond_true, cond_false]
          rw [e]
          exact callQ_run [(16, .bool false), (34, .bool false)] (q := [(some (.bool ((chk (true) (aTau) (aOid) (aR) (aDelta) (aId)) == 0)), .bool false), (some (.bool (awk )), .bool false)]) (by kernel_rfl) (Met.cons (met_bool h0) (Met.cons (met_bool h1) (Met.nil)))
  | false =>
    cases bNull with
    | true =>
      cases h0 : ((chk (false) (aTau) (aOid) (aR) (aDelta) (aId)) == 0) with
      | true =>
        cases h1 : ((chk (true) (bTau) (bOid) (bR) (bDelta) (bId)) == 0) with
        | true =>
          cases h2 : (awk ) with
          | true =>
            cases h3 : ((dir (false) (aTau) (aOid) (aR) (aDelta) (aId) (true) (bTau) (bOid) (bR) (bDelta) (bId)) != 2) with
            | true =>
              cases h4 : ((dir (true) (bTau) (bOid) (bR) (bDelta) (bId) (false) (aTau) (aOid) (aR) (aDelta) (aId)) != 2) with
              | true =>
                cases h5 : ((dir (false) (aTau) (aOid) (aR) (aDelta) (aId) (true) (bTau) (bOid) (bR) (bDelta) (bId)) == 1) with
                | true =>
                  cases h6 : ((dir (true) (bTau) (bOid) (bR) (bDelta) (bId) (false) (aTau) (aOid) (aR) (aDelta) (aId)) == 1) with
                  | true =>
                    have e : tTurn false aTau aOid aR aDelta aId true bTau bOid bR bDelta bId = (.bool false) := by simp only [tTurn, h0, h1, h2, h3, h4, h5, h6, cond_true, cond_false]
                    rw [e]
                    exact callQ_run [(16, .bool true), (20, .bool true), (34, .bool true), (37, .bool true), (41, .bool true), (45, .bool true), (48, .bool true)] (q := [(some (.bool ((chk (false) (aTau) (aOid) (aR) (aDelta) (aId)) == 0)), .bool true), (some (.bool ((chk (true) (bTau) (bOid) (bR) (bDelta) (bId)) == 0)), .bool true), (some (.bool (awk )), .bool true), (some (.bool ((dir (false) (aTau) (aOid) (aR) (aDelta) (aId) (true) (bTau) (bOid) (bR) (bDelta) (bId)) != 2)), .bool true), (some (.bool ((dir (true) (bTau) (bOid) (bR) (bDelta) (bId) (false) (aTau) (aOid) (aR) (aDelta) (aId)) != 2)), .bool true), (some (.bool ((dir (false) (aTau) (aOid) (aR) (aDelta) (aId) (true) (bTau) (bOid) (bR) (bDelta) (bId)) == 1)), .bool true), (some (.bool ((dir (true) (bTau) (bOid) (bR) (bDelta) (bId) (false) (aTau) (aOid) (aR) (aDelta) (aId)) == 1)), .bool true)]) (by kernel_rfl) (Met.cons (met_bool h0) (Met.cons (met_bool h1) (Met.cons (met_bool h2) (Met.cons (met_bool h3) (Met.cons (met_bool h4) (Met.cons (met_bool h5) (Met.cons (met_bool h6) (Met.nil))))))))
                  | false =>
                    have e : tTurn false aTau aOid aR aDelta aId true bTau bOid bR bDelta bId = (.bool true) := by simp only [tTurn, h0, h1, h2, h3, h4, h5, h6, cond_true, cond_false]
                    rw [e]
                    exact callQ_run [(16, .bool true), (20, .bool true), (34, .bool true), (37, .bool true), (41, .bool true), (45, .bool true), (48, .bool false)] (q := [(some (.bool ((chk (false) (aTau) (aOid) (aR) (aDelta) (aId)) == 0)), .bool true), (some (.bool ((chk (true) (bTau) (bOid) (bR) (bDelta) (bId)) == 0)), .bool true), (some (.bool (awk )), .bool true), (some (.bool ((dir (false) (aTau) (aOid) (aR) (aDelta) (aId) (true) (bTau) (bOid) (bR) (bDelta) (bId)) != 2)), .bool true), (some (.bool ((dir (true) (bTau) (bOid) (bR) (bDelta) (bId) (false) (aTau) (aOid) (aR) (aDelta) (aId)) != 2)), .bool true), (some (.bool ((dir (false) (aTau) (aOid) (aR) (aDelta) (aId) (true) (bTau) (bOid) (bR) (bDelta) (bId)) == 1)), .bool true), (some (.bool ((dir (true) (bTau) (bOid) (bR) (bDelta) (bId) (false) (aTau) (aOid) (aR) (aDelta) (aId)) == 1)), .bool false)]) (by kernel_rfl) (Met.cons (met_bool h0) (Met.cons (met_bool h1) (Met.cons (met_bool h2) (Met.cons (met_bool h3) (Met.cons (met_bool h4) (Met.cons (met_bool h5) (Met.cons (met_bool h6) (Met.nil))))))))
                | false =>
                  have e : tTurn false aTau aOid aR aDelta aId true bTau bOid bR bDelta bId = (.bool true) := by simp only [tTurn, h0, h1, h2, h3, h4, h5, cond_true, cond_false]
                  rw [e]
                  exact callQ_run [(16, .bool true), (20, .bool true), (34, .bool true), (37, .bool true), (41, .bool true), (45, .bool false)] (q := [(some (.bool ((chk (false) (aTau) (aOid) (aR) (aDelta) (aId)) == 0)), .bool true), (some (.bool ((chk (true) (bTau) (bOid) (bR) (bDelta) (bId)) == 0)), .bool true), (some (.bool (awk )), .bool true), (some (.bool ((dir (false) (aTau) (aOid) (aR) (aDelta) (aId) (true) (bTau) (bOid) (bR) (bDelta) (bId)) != 2)), .bool true), (some (.bool ((dir (true) (bTau) (bOid) (bR) (bDelta) (bId) (false) (aTau) (aOid) (aR) (aDelta) (aId)) != 2)), .bool true), (some (.bool ((dir (false) (aTau) (aOid) (aR) (aDelta) (aId) (true) (bTau) (bOid) (bR) (bDelta) (bId)) == 1)), .bool false)]) (by kernel_rfl) (Met.cons (met_bool h0) (Met.cons (met_bool h1) (Met.cons (met_bool h2) (Met.cons (met_bool h3) (Met.cons (met_bool h4) (Met.cons (met_bool h5) (Met.nil)))))))
              | false =>
                have e : tTurn false aTau aOid aR aDelta aId true bTau bOid bR bDelta bId = (.bool false) := by simp only [tTurn, h0, h1, h2, h3, h4, cond_true, cond_false]
                rw [e]
                exact callQ_run [(16, .bool true), (20, .bool true), (34, .bool true), (37, .bool true), (41, .bool false)] (q := [(some (.bool ((chk (false) (aTau) (aOid) (aR) (aDelta) (aId)) == 0)), .bool true), (some (.bool ((chk (true) (bTau) (bOid) (bR) (bDelta) (bId)) == 0)), .bool true), (some (.bool (awk )), .bool true), (some (.bool ((dir (false) (aTau) (aOid) (aR) (aDelta) (aId) (true) (bTau) (bOid) (bR) (bDelta) (bId)) != 2)), .bool true), (some (.bool ((dir (true) (bTau) (bOid) (bR) (bDelta) (bId) (false) (aTau) (aOid) (aR) (aDelta) (aId)) != 2)), .bool false)]) (by kernel_rfl) (Met.cons (met_bool h0) (Met.cons (met_bool h1) (Met.cons (met_bool h2) (Met.cons (met_bool h3) (Met.cons (met_bool h4) (Met.nil))))))
            | false =>
              have e : tTurn false aTau aOid aR aDelta aId true bTau bOid bR bDelta bId = (.bool false) := by simp only [tTurn, h0, h1, h2, h3, cond_true, cond_false]
              rw [e]
              exact callQ_run [(16, .bool true), (20, .bool true), (34, .bool true), (37, .bool false)] (q := [(some (.bool ((chk (false) (aTau) (aOid) (aR) (aDelta) (aId)) == 0)), .bool true), (some (.bool ((chk (true) (bTau) (bOid) (bR) (bDelta) (bId)) == 0)), .bool true), (some (.bool (awk )), .bool true), (some (.bool ((dir (false) (aTau) (aOid) (aR) (aDelta) (aId) (true) (bTau) (bOid) (bR) (bDelta) (bId)) != 2)), .bool false)]) (by kernel_rfl) (Met.cons (met_bool h0) (Met.cons (met_bool h1) (Met.cons (met_bool h2) (Met.cons (met_bool h3) (Met.nil)))))
          | false =>
            have e : tTurn false aTau aOid aR aDelta aId true bTau bOid bR bDelta bId = (.bool false) := by simp only [tTurn, h0, h1, h2, cond_true, cond_false]
            rw [e]
            exact callQ_run [(16, .bool true), (20, .bool true), (34, .bool false)] (q := [(some (.bool ((chk (false) (aTau) (aOid) (aR) (aDelta) (aId)) == 0)), .bool true), (some (.bool ((chk (true) (bTau) (bOid) (bR) (bDelta) (bId)) == 0)), .bool true), (some (.bool (awk )), .bool false)]) (by kernel_rfl) (Met.cons (met_bool h0) (Met.cons (met_bool h1) (Met.cons (met_bool h2) (Met.nil))))
        | false =>
          cases h2 : (awk ) with
          | true =>
            cases h3 : ((dir (false) (aTau) (aOid) (aR) (aDelta) (aId) (true) (bTau) (bOid) (bR) (bDelta) (bId)) != 2) with
            | true =>
              cases h4 : ((dir (true) (bTau) (bOid) (bR) (bDelta) (bId) (false) (aTau) (aOid) (aR) (aDelta) (aId)) != 2) with
              | true =>
                cases h5 : ((dir (false) (aTau) (aOid) (aR) (aDelta) (aId) (true) (bTau) (bOid) (bR) (bDelta) (bId)) == 1) with
                | true =>
                  cases h6 : ((dir (true) (bTau) (bOid) (bR) (bDelta) (bId) (false) (aTau) (aOid) (aR) (aDelta) (aId)) == 1) with
                  | true =>
                    have e : tTurn false aTau aOid aR aDelta aId true bTau bOid bR bDelta bId = (.bool false) := by simp only [tTurn, h0, h1, h2, h3, h4, h5, h6, cond_true, cond_false]
                    rw [e]
                    exact callQ_run [(16, .bool true), (20, .bool false), (34, .bool true), (37, .bool true), (41, .bool true), (45, .bool true), (48, .bool true)] (q := [(some (.bool ((chk (false) (aTau) (aOid) (aR) (aDelta) (aId)) == 0)), .bool true), (some (.bool ((chk (true) (bTau) (bOid) (bR) (bDelta) (bId)) == 0)), .bool false), (some (.bool (awk )), .bool true), (some (.bool ((dir (false) (aTau) (aOid) (aR) (aDelta) (aId) (true) (bTau) (bOid) (bR) (bDelta) (bId)) != 2)), .bool true), (some (.bool ((dir (true) (bTau) (bOid) (bR) (bDelta) (bId) (false) (aTau) (aOid) (aR) (aDelta) (aId)) != 2)), .bool true), (some (.bool ((dir (false) (aTau) (aOid) (aR) (aDelta) (aId) (true) (bTau) (bOid) (bR) (bDelta) (bId)) == 1)), .bool true), (some (.bool ((dir (true) (bTau) (bOid) (bR) (bDelta) (bId) (false) (aTau) (aOid) (aR) (aDelta) (aId)) == 1)), .bool true)]) (by kernel_rfl) (Met.cons (met_bool h0) (Met.cons (met_bool h1) (Met.cons (met_bool h2) (Met.cons (met_bool h3) (Met.cons (met_bool h4) (Met.cons (met_bool h5) (Met.cons (met_bool h6) (Met.nil))))))))
                  | false =>
                    have e : tTurn false aTau aOid aR aDelta aId true bTau bOid bR bDelta bId = (.bool true) := by simp only [tTurn, h0, h1, h2, h3, h4, h5, h6, cond_true, cond_false]
                    rw [e]
                    exact callQ_run [(16, .bool true), (20, .bool false), (34, .bool true), (37, .bool true), (41, .bool true), (45, .bool true), (48, .bool false)] (q := [(some (.bool ((chk (false) (aTau) (aOid) (aR) (aDelta) (aId)) == 0)), .bool true), (some (.bool ((chk (true) (bTau) (bOid) (bR) (bDelta) (bId)) == 0)), .bool false), (some (.bool (awk )), .bool true), (some (.bool ((dir (false) (aTau) (aOid) (aR) (aDelta) (aId) (true) (bTau) (bOid) (bR) (bDelta) (bId)) != 2)), .bool true), (some (.bool ((dir (true) (bTau) (bOid) (bR) (bDelta) (bId) (false) (aTau) (aOid) (aR) (aDelta) (aId)) != 2)), .bool true), (some (.bool ((dir (false) (aTau) (aOid) (aR) (aDelta) (aId) (true) (bTau) (bOid) (bR) (bDelta) (bId)) == 1)), .bool true), (some (.bool ((dir (true) (bTau) (bOid) (bR) (bDelta) (bId) (false) (aTau) (aOid) (aR) (aDelta) (aId)) == 1)), .bool false)]) (by kernel_rfl) (Met.cons (met_bool h0) (Met.cons (met_bool h1) (Met.cons (met_bool h2) (Met.cons (met_bool h3) (Met.cons (met_bool h4) (Met.cons (met_bool h5) (Met.cons (met_bool h6) (Met.nil))))))))
                | false =>
                  have e : tTurn false aTau aOid aR aDelta aId true bTau bOid bR bDelta bId = (.bool true) := by simp only [tTurn, h0, h1, h2, h3, h4, h5, cond_true, cond_false]
                  rw [e]
                  exact callQ_run [(16, .bool true), (20, .bool false), (34, .bool true), (37, .bool true), (41, .bool true), (45, .bool false)] (q := [(some (.bool ((chk (false) (aTau) (aOid) (aR) (aDelta) (aId)) == 0)), .bool true), (some (.bool ((chk (true) (bTau) (bOid) (bR) (bDelta) (bId)) == 0)), .bool false), (some (.bool (awk )), .bool true), (some (.bool ((dir (false) (aTau) (aOid) (aR) (aDelta) (aId) (true) (bTau) (bOid) (bR) (bDelta) (bId)) != 2)), .bool true), (some (.bool ((dir (true) (bTau) (bOid) (bR) (bDelta) (bId) (false) (aTau) (aOid) (aR) (aDelta) (aId)) != 2)), .bool true), (some (.bool ((dir (false) (aTau) (aOid) (aR) (aDelta) (aId) (true) (bTau) (bOid) (bR) (bDelta) (bId)) == 1)), .bool false)]) (by kernel_rfl) (Met.cons (met_bool h0) (Met.cons (met_bool h1) (Met.cons (met_bool h2) (Met.cons (met_bool h3) (Met.cons (met_bool h4) (Met.cons (met_bool h5) (Met.nil)))))))
              | false =>
                have e : tTurn false aTau aOid aR aDelta aId true bTau bOid bR bDelta bId = (.bool false) := by simp only [tTurn, h0, h1, h2, h3, h4, cond_true, cond_false]
                rw [e]
                exact callQ_run [(16, .bool true), (20, .bool false), (34, .bool true), (37, .bool true), (41, .bool false)] (q := [(some (.bool ((chk (false) (aTau) (aOid) (aR) (aDelta) (aId)) == 0)), .bool true), (some (.bool ((chk (true) (bTau) (bOid) (bR) (bDelta) (bId)) == 0)), .bool false), (some (.bool (awk )), .bool true), (some (.bool ((dir (false) (aTau) (aOid) (aR) (aDelta) (aId) (true) (bTau) (bOid) (bR) (bDelta) (bId)) != 2)), .bool true), (some (.bool ((dir (true) (bTau) (bOid) (bR) (bDelta) (bId) (false) (aTau) (aOid) (aR) (aDelta) (aId)) != 2)), .bool false)]) (by kernel_rfl) (Met.cons (met_bool h0) (Met.cons (met_bool h1) (Met.cons (met_bool h2) (Met.cons (met_bool h3) (Met.cons (met_bool h4) (Met.nil))))))
            | false =>
              have e : tTurn false aTau aOid aR aDelta aId true bTau bOid bR bDelta bId = (.bool false) := by simp only [tTurn, h0, h1, h2, h3, cond_true, cond_false]
              rw [e]
              exact callQ_run [(16, .bool true), (20, .bool false), (34, .bool true), (37, .bool false)] (q := [(some (.bool ((chk (false) (aTau) (aOid) (aR) (aDelta) (aId)) == 0)), .bool true), (some (.bool ((chk (true) (bTau) (bOid) (bR) (bDelta) (bId)) == 0)), .bool false), (some (.bool (awk )), .bool true), (some (.bool ((dir (false) (aTau) (aOid) (aR) (aDelta) (aId) (true) (bTau) (bOid) (bR) (bDelta) (bId)) != 2)), .bool false)]) (by kernel_rfl) (Met.cons (met_bool h0) (Met.cons (met_bool h1) (Met.cons (met_bool h2) (Met.cons (met_bool h3) (Met.nil)))))
          | false =>
            have e : tTurn false aTau aOid aR aDelta aId true bTau bOid bR bDelta bId = (.bool false) := by simp only [tTurn, h0, h1, h2, cond_true, cond_false]
            rw [e]
            exact callQ_run [(16, .bool true), (20, .bool false), (34, .bool false)] (q := [(some (.bool ((chk (false) (aTau) (aOid) (aR) (aDelta) (aId)) == 0)), .bool true), (some (.bool ((chk (true) (bTau) (bOid) (bR) (bDelta) (bId)) == 0)), .bool false), (some (.bool (awk )), .bool false)]) (by kernel_rfl) (Met.cons (met_bool h0) (Met.cons (met_bool h1) (Met.cons (met_bool h2) (Met.nil))))
      | false =>
        cases h1 : (awk ) with
        | true =>
          cases h2 : ((dir (false) (aTau) (aOid) (aR) (aDelta) (aId) (true) (bTau) (bOid) (bR) (bDelta) (bId)) != 2) with
          | true =>
            cases h3 : ((dir (true) (bTau) (bOid) (bR) (bDelta) (bId) (false) (aTau) (aOid) (aR) (aDelta) (aId)) != 2) with
            | true =>
              cases h4 : ((dir (false) (aTau) (aOid) (aR) (aDelta) (aId) (true) (bTau) (bOid) (bR) (bDelta) (bId)) == 1) with
              | true =>
                cases h5 : ((dir (true) (bTau) (bOid) (bR) (bDelta) (bId) (false) (aTau) (aOid) (aR) (aDelta) (aId)) == 1) with
                | true =>
                  have e : tTurn false aTau aOid aR aDelta aId true bTau bOid bR bDelta bId = (.bool false) := by simp only [tTurn, h0, h1, h2, h3, h4, h5, cond_true, cond_false]
                  rw [e]
                  exact callQ_run [(16, .bool false), (34, .bool true), (37, .bool true), (41, .bool true), (45, .bool true), (48, .bool true)] (q := [(some (.bool ((chk (false) (aTau) (aOid) (aR) (aDelta) (aId)) == 0)), .bool false), (some (.bool (awk )), .bool true), (some (.bool ((dir (false) (aTau) (aOid) (aR) (aDelta) (aId) (true) (bTau) (bOid) (bR) (bDelta) (bId)) != 2)), .bool true), (some (.bool ((dir (true) (bTau) (bOid) (bR) (bDelta) (bId) (false) (aTau) (aOid) (aR) (aDelta) (aId)) != 2)), .bool true), (some (.bool ((dir (false) (aTau) (aOid) (aR) (aDelta) (aId) (true) (bTau) (bOid) (bR) (bDelta) (bId)) == 1)), .bool true), (some (.bool ((dir (true) (bTau) (bOid) (bR) (bDelta) (bId) (false) (aTau) (aOid) (aR) (aDelta) (aId)) == 1)), .bool true)]) (by kernel_rfl) (Met.cons (met_bool h0) (Met.cons (met_bool h1) (Met.cons (met_bool h2) (Met.cons (met_bool h3) (Met.cons (met_bool h4) (Met.cons (met_bool h5) (Met.nil)))))))
                | false =>
                  have e : tTurn false aTau aOid aR aDelta aId true bTau bOid bR bDelta bId = (.bool true) := by simp only [tTurn, h0, h1, h2, h3, h4, h5, cond_true, cond_false]
                  rw [e]
                  exact callQ_run [(16, .bool false), (34, .bool true), (37, .bool true), (41, .bool true), (45, .bool true), (48, .bool false)] (q := [(some (.bool ((chk (false) (aTau) (aOid) (aR) (aDelta) (aId)) == 0)), .bool false), (some (.bool (awk )), .bool true), (some (.bool ((dir (false) (aTau) (aOid) (aR) (aDelta) (aId) (true) (bTau) (bOid) (bR) (bDelta) (bId)) != 2)), .bool true), (some (.bool ((dir (true) (bTau) (bOid) (bR) (bDelta) (bId) (false) (aTau) (aOid) (aR) (aDelta) (aId)) != 2)), .bool true), (some (.bool ((dir (false) (aTau) (aOid) (aR) (aDelta) (aId) (true) (bTau) (bOid) (bR) (bDelta) (bId)) == 1)), .bool true), (some (.bool ((dir (true) (bTau) (bOid) (bR) (bDelta) (bId) (false) (aTau) (aOid) (aR) (aDelta) (aId)) == 1)), .bool false)]) (by kernel_rfl) (Met.cons (met_bool h0) (Met.cons (met_bool h1) (Met.cons (met_bool h2) (Met.cons (met_bool h3) (Met.cons (met_bool h4) (Met.cons (met_bool h5) (Met.nil)))))))
              | false =>
                have e : tTurn false aTau aOid aR aDelta aId true bTau bOid bR bDelta bId = (.bool true) := by simp only [tTurn, h0, h1, h2, h3, h4, cond_true, cond_false]
                rw [e]
                exact callQ_run [(16, .bool false), (34, .bool true), (37, .bool true), (41, .bool true), (45, .bool false)] (q := [(some (.bool ((chk (false) (aTau) (aOid) (aR) (aDelta) (aId)) == 0)), .bool false), (some (.bool (awk )), .bool true), (some (.bool ((dir (false) (aTau) (aOid) (aR) (aDelta) (aId) (true) (bTau) (bOid) (bR) (bDelta) (bId)) != 2)), .bool true), (some (.bool ((dir (true) (bTau) (bOid) (bR) (bDelta) (bId) (false) (aTau) (aOid) (aR) (aDelta) (aId)) != 2)), .bool true), (some (.bool ((dir (false) (aTau) (aOid) (aR) (aDelta) (aId) (true) (bTau) (bOid) (bR) (bDelta) (bId)) == 1)), .bool false)]) (by kernel_rfl) (Met.cons (met_bool h0) (Met.cons (met_bool h1) (Met.cons (met_bool h2) (Met.cons (met_bool h3) (Met.cons (met_bool h4) (Met.nil))))))
            | false =>
              have e : tTurn false aTau aOid aR aDelta aId true bTau bOid bR bDelta bId = (.bool false) := by simp only [tTurn, h0, h1, h2, h3, cond_true, cond_false]
              rw [e]
              exact callQ_run [(16, .bool false), (34, .bool true), (37, .bool true), (41, .bool false)] (q := [(some (.bool ((chk (false) (aTau) (aOid) (aR) (aDelta) (aId)) == 0)), .bool false), (some (.bool (awk )), .bool true), (some (.bool ((dir (false) (aTau) (aOid) (aR) (aDelta) (aId) (true) (bTau) (bOid) (bR) (bDelta) (bId)) != 2)), .bool true), (some (.bool ((dir (true) (bTau) (bOid) (bR) (bDelta) (bId) (false) (aTau) (aOid) (aR) (aDelta) (aId)) != 2)), .bool false)]) (by kernel_rfl) (Met.cons (met_bool h0) (Met.cons (met_bool h1) (Met.cons (met_bool h2) (Met.cons (met_bool h3) (Met.nil)))))
          | false =>
            have e : tTurn false aTau aOid aR aDelta aId true bTau bOid bR bDelta bId = (.bool false) := by simp only [tTurn, h0, h1, h2, cond_true, cond_false]
            rw [e]
            exact callQ_run [(16, .bool false), (34, .bool true), (37, .bool false)] (q := [(some (.bool ((chk (false) (aTau) (aOid) (aR) (aDelta) (aId)) == 0)), .bool false), (some (.bool (awk )), .bool true), (some (.bool ((dir (false) (aTau) (aOid) (aR) (aDelta) (aId) (true) (bTau) (bOid) (bR) (bDelta) (bId)) != 2)), .bool false)]) (by kernel_rfl) (Met.cons (met_bool h0) (Met.cons (met_bool h1) (Met.cons (met_bool h2) (Met.nil))))
        | false =>
          have e : tTurn false aTau aOid aR aDelta aId true bTau bOid bR bDelta bId = (.bool false) := by simp only [tTurn, h0, h1, cond_true, cond_false]
          rw [e]
          exact callQ_run [(16, .bool false), (34, .bool false)] (q := [(some (.bool ((chk (false) (aTau) (aOid) (aR) (aDelta) (aId)) == 0)), .bool false), (some (.bool (awk )), .bool false)]) (by kernel_rfl) (Met.cons (met_bool h0) (Met.cons (met_bool h1) (Met.nil)))
    | false =>
      cases h0 : ((chk (false) (aTau) (aOid) (aR) (aDelta) (aId)) == 0) with
      | true =>
        cases h1 : ((chk (false) (bTau) (bOid) (bR) (bDelta) (bId)) == 0) with
        | true =>
          cases h2 : (same23 (false) (aTau) (aOid) (aR) (aDelta) (aId) (false) (bTau) (bOid) (bR) (bDelta) (bId)) with
          | true =>
            cases h3 : (awk ) with
            | true =>
              cases h4 : ((dir (false) (aTau) (aOid) (aR) (aDelta) (aId) (false) (bTau) (bOid) (bR) (bDelta) (bId)) == 0) with
              | true =>
                cases h5 : ((dir (false) (bTau) (bOid) (bR) (bDelta) (bId) (false) (aTau) (aOid) (aR) (aDelta) (aId)) == (dir (false) (aTau) (aOid) (aR) (aDelta) (aId) (false) (bTau) (bOid) (bR) (bDelta) (bId))) with
                | true =>
                  have e : tTurn false aTau aOid aR aDelta aId false bTau bOid bR bDelta bId = (.bool true) := by simp only [tTurn, h0, h1, h2, h3, h4, h5, cond_true, cond_false]
                  rw [e]
                  exact callQ_run [(16, .bool true), (20, .bool true), (54, .bool true), (55, .bool true), (58, .bool true), (63, .bool true)] (q := [(some (.bool ((chk (false) (aTau) (aOid) (aR) (aDelta) (aId)) == 0)), .bool true), (some (.bool ((chk (false) (bTau) (bOid) (bR) (bDelta) (bId)) == 0)), .bool true), (fstV ((aBin Try.prog .eql 23 (.agg #[.bool false, .int .i64 aTau, .int .i64 aOid, .int .i64 aR, .int .i64 aDelta, .int .i64 aId]) (.agg #[.bool false, .int .i64 bTau, .int .i64 bOid, .int .i64 bR, .int .i64 bDelta, .int .i64 bId])).map fun v => (v, none)), .bool true), (some (.bool (awk )), .bool true), (some (.bool ((dir (false) (aTau) (aOid) (aR) (aDelta) (aId) (false) (bTau) (bOid) (bR) (bDelta) (bId)) == 0)), .bool true), (some (.bool ((dir (false) (bTau) (bOid) (bR) (bDelta) (bId) (false) (aTau) (aOid) (aR) (aDelta) (aId)) == (dir (false) (aTau) (aOid) (aR) (aDelta) (aId) (false) (bTau) (bOid) (bR) (bDelta) (bId)))), .bool true)]) (by kernel_rfl) (Met.cons (met_bool h0) (Met.cons (met_bool h1) (Met.cons ((eql23 ..).trans (met_bool h2)) (Met.cons (met_bool h3) (Met.cons (met_bool h4) (Met.cons (met_bool h5) (Met.nil)))))))
                | false =>
                  have e : tTurn false aTau aOid aR aDelta aId false bTau bOid bR bDelta bId = (.bool false) := by simp only [tTurn, h0, h1, h2, h3, h4, h5, cond_true, cond_false]
                  rw [e]
                  exact callQ_run [(16, .bool true), (20, .bool true), (54, .bool true), (55, .bool true), (58, .bool true), (63, .bool false)] (q := [(some (.bool ((chk (false) (aTau) (aOid) (aR) (aDelta) (aId)) == 0)), .bool true), (some (.bool ((chk (false) (bTau) (bOid) (bR) (bDelta) (bId)) == 0)), .bool true), (fstV ((aBin Try.prog .eql 23 (.agg #[.bool false, .int .i64 aTau, .int .i64 aOid, .int .i64 aR, .int .i64 aDelta, .int .i64 aId]) (.agg #[.bool false, .int .i64 bTau, .int .i64 bOid, .int .i64 bR, .int .i64 bDelta, .int .i64 bId])).map fun v => (v, none)), .bool true), (some (.bool (awk )), .bool true), (some (.bool ((dir (false) (aTau) (aOid) (aR) (aDelta) (aId) (false) (bTau) (bOid) (bR) (bDelta) (bId)) == 0)), .bool true), (some (.bool ((dir (false) (bTau) (bOid) (bR) (bDelta) (bId) (false) (aTau) (aOid) (aR) (aDelta) (aId)) == (dir (false) (aTau) (aOid) (aR) (aDelta) (aId) (false) (bTau) (bOid) (bR) (bDelta) (bId)))), .bool false)]) (by kernel_rfl) (Met.cons (met_bool h0) (Met.cons (met_bool h1) (Met.cons ((eql23 ..).trans (met_bool h2)) (Met.cons (met_bool h3) (Met.cons (met_bool h4) (Met.cons (met_bool h5) (Met.nil)))))))
              | false =>
                have e : tTurn false aTau aOid aR aDelta aId false bTau bOid bR bDelta bId = (.bool false) := by simp only [tTurn, h0, h1, h2, h3, h4, cond_true, cond_false]
                rw [e]
                exact callQ_run [(16, .bool true), (20, .bool true), (54, .bool true), (55, .bool true), (58, .bool false)] (q := [(some (.bool ((chk (false) (aTau) (aOid) (aR) (aDelta) (aId)) == 0)), .bool true), (some (.bool ((chk (false) (bTau) (bOid) (bR) (bDelta) (bId)) == 0)), .bool true), (fstV ((aBin Try.prog .eql 23 (.agg #[.bool false, .int .i64 aTau, .int .i64 aOid, .int .i64 aR, .int .i64 aDelta, .int .i64 aId]) (.agg #[.bool false, .int .i64 bTau, .int .i64 bOid, .int .i64 bR, .int .i64 bDelta, .int .i64 bId])).map fun v => (v, none)), .bool true), (some (.bool (awk )), .bool true), (some (.bool ((dir (false) (aTau) (aOid) (aR) (aDelta) (aId) (false) (bTau) (bOid) (bR) (bDelta) (bId)) == 0)), .bool false)]) (by kernel_rfl) (Met.cons (met_bool h0) (Met.cons (met_bool h1) (Met.cons ((eql23 ..).trans (met_bool h2)) (Met.cons (met_bool h3) (Met.cons (met_bool h4) (Met.nil))))))
            | false =>
              have e : tTurn false aTau aOid aR aDelta aId false bTau bOid bR bDelta bId = (.bool false) := by simp only [tTurn, h0, h1, h2, h3, cond_true, cond_false]
              rw [e]
              exact callQ_run [(16, .bool true), (20, .bool true), (54, .bool true), (55, .bool false)] (q := [(some (.bool ((chk (false) (aTau) (aOid) (aR) (aDelta) (aId)) == 0)), .bool true), (some (.bool ((chk (false) (bTau) (bOid) (bR) (bDelta) (bId)) == 0)), .bool true), (fstV ((aBin Try.prog .eql 23 (.agg #[.bool false, .int .i64 aTau, .int .i64 aOid, .int .i64 aR, .int .i64 aDelta, .int .i64 aId]) (.agg #[.bool false, .int .i64 bTau, .int .i64 bOid, .int .i64 bR, .int .i64 bDelta, .int .i64 bId])).map fun v => (v, none)), .bool true), (some (.bool (awk )), .bool false)]) (by kernel_rfl) (Met.cons (met_bool h0) (Met.cons (met_bool h1) (Met.cons ((eql23 ..).trans (met_bool h2)) (Met.cons (met_bool h3) (Met.nil)))))
          | false =>
            cases h3 : (awk ) with
            | true =>
              cases h4 : ((wrapF .i64 ((dir (false) (aTau) (aOid) (aR) (aDelta) (aId) (false) (bTau) (bOid) (bR) (bDelta) (bId)) + (dir (false) (bTau) (bOid) (bR) (bDelta) (bId) (false) (aTau) (aOid) (aR) (aDelta) (aId)))) == 3) with
              | true =>
                cases h5 : ((dir (false) (aTau) (aOid) (aR) (aDelta) (aId) (false) (bTau) (bOid) (bR) (bDelta) (bId)) == 1) with
                | true =>
                  cases h6 : (less (false) (bTau) (bOid) (bR) (bDelta) (bId) (false) (aTau) (aOid) (aR) (aDelta) (aId)) with
                  | true =>
                    have e : tTurn false aTau aOid aR aDelta aId false bTau bOid bR bDelta bId = (.bool true) := by simp only [tTurn, h0, h1, h2, h3, h4, h5, h6, cond_true, cond_false]
                    rw [e]
                    exact callQ_run [(16, .bool true), (20, .bool true), (54, .bool false), (65, .bool true), (70, .bool true), (74, .bool true), (77, .bool true)] (q := [(some (.bool ((chk (false) (aTau) (aOid) (aR) (aDelta) (aId)) == 0)), .bool true), (some (.bool ((chk (false) (bTau) (bOid) (bR) (bDelta) (bId)) == 0)), .bool true), (fstV ((aBin Try.prog .eql 23 (.agg #[.bool false, .int .i64 aTau, .int .i64 aOid, .int .i64 aR, .int .i64 aDelta, .int .i64 aId]) (.agg #[.bool false, .int .i64 bTau, .int .i64 bOid, .int .i64 bR, .int .i64 bDelta, .int .i64 bId])).map fun v => (v, none)), .bool false), (some (.bool (awk )), .bool true), (some (.bool ((wrapF .i64 ((dir (false) (aTau) (aOid) (aR) (aDelta) (aId) (false) (bTau) (bOid) (bR) (bDelta) (bId)) + (dir (false) (bTau) (bOid) (bR) (bDelta) (bId) (false) (aTau) (aOid) (aR) (aDelta) (aId)))) == 3)), .bool true), (some (.bool ((dir (false) (aTau) (aOid) (aR) (aDelta) (aId) (false) (bTau) (bOid) (bR) (bDelta) (bId)) == 1)), .bool true), (some (.bool (less (false) (bTau) (bOid) (bR) (bDelta) (bId) (false) (aTau) (aOid) (aR) (aDelta) (aId))), .bool true)]) (by kernel_rfl) (Met.cons (met_bool h0) (Met.cons (met_bool h1) (Met.cons ((eql23 ..).trans (met_bool h2)) (Met.cons (met_bool h3) (Met.cons (met_bool h4) (Met.cons (met_bool h5) (Met.cons (met_bool h6) (Met.nil))))))))
                  | false =>
                    have e : tTurn false aTau aOid aR aDelta aId false bTau bOid bR bDelta bId = (.bool false) := by simp only [tTurn, h0, h1, h2, h3, h4, h5, h6, cond_true, cond_false]
                    rw [e]
                    exact callQ_run [(16, .bool true), (20, .bool true), (54, .bool false), (65, .bool true), (70, .bool true), (74, .bool true), (77, .bool false)] (q := [(some (.bool ((chk (false) (aTau) (aOid) (aR) (aDelta) (aId)) == 0)), .bool true), (some (.bool ((chk (false) (bTau) (bOid) (bR) (bDelta) (bId)) == 0)), .bool true), (fstV ((aBin Try.prog .eql 23 (.agg #[.bool false, .int .i64 aTau, .int .i64 aOid, .int .i64 aR, .int .i64 aDelta, .int .i64 aId]) (.agg #[.bool false, .int .i64 bTau, .int .i64 bOid, .int .i64 bR, .int .i64 bDelta, .int .i64 bId])).map fun v => (v, none)), .bool false), (some (.bool (awk )), .bool true), (some (.bool ((wrapF .i64 ((dir (false) (aTau) (aOid) (aR) (aDelta) (aId) (false) (bTau) (bOid) (bR) (bDelta) (bId)) + (dir (false) (bTau) (bOid) (bR) (bDelta) (bId) (false) (aTau) (aOid) (aR) (aDelta) (aId)))) == 3)), .bool true), (some (.bool ((dir (false) (aTau) (aOid) (aR) (aDelta) (aId) (false) (bTau) (bOid) (bR) (bDelta) (bId)) == 1)), .bool true), (some (.bool (less (false) (bTau) (bOid) (bR) (bDelta) (bId) (false) (aTau) (aOid) (aR) (aDelta) (aId))), .bool false)]) (by kernel_rfl) (Met.cons (met_bool h0) (Met.cons (met_bool h1) (Met.cons ((eql23 ..).trans (met_bool h2)) (Met.cons (met_bool h3) (Met.cons (met_bool h4) (Met.cons (met_bool h5) (Met.cons (met_bool h6) (Met.nil))))))))
                | false =>
                  cases h6 : (less (false) (bTau) (bOid) (bR) (bDelta) (bId) (false) (aTau) (aOid) (aR) (aDelta) (aId)) with
                  | true =>
                    have e : tTurn false aTau aOid aR aDelta aId false bTau bOid bR bDelta bId = (.bool false) := by simp only [tTurn, h0, h1, h2, h3, h4, h5, h6, cond_true, cond_false]
                    rw [e]
                    exact callQ_run [(16, .bool true), (20, .bool true), (54, .bool false), (65, .bool true), (70, .bool true), (74, .bool false), (77, .bool true)] (q := [(some (.bool ((chk (false) (aTau) (aOid) (aR) (aDelta) (aId)) == 0)), .bool true), (some (.bool ((chk (false) (bTau) (bOid) (bR) (bDelta) (bId)) == 0)), .bool true), (fstV ((aBin Try.prog .eql 23 (.agg #[.bool false, .int .i64 aTau, .int .i64 aOid, .int .i64 aR, .int .i64 aDelta, .int .i64 aId]) (.agg #[.bool false, .int .i64 bTau, .int .i64 bOid, .int .i64 bR, .int .i64 bDelta, .int .i64 bId])).map fun v => (v, none)), .bool false), (some (.bool (awk )), .bool true), (some (.bool ((wrapF .i64 ((dir (false) (aTau) (aOid) (aR) (aDelta) (aId) (false) (bTau) (bOid) (bR) (bDelta) (bId)) + (dir (false) (bTau) (bOid) (bR) (bDelta) (bId) (false) (aTau) (aOid) (aR) (aDelta) (aId)))) == 3)), .bool true), (some (.bool ((dir (false) (aTau) (aOid) (aR) (aDelta) (aId) (false) (bTau) (bOid) (bR) (bDelta) (bId)) == 1)), .bool false), (some (.bool (less (false) (bTau) (bOid) (bR) (bDelta) (bId) (false) (aTau) (aOid) (aR) (aDelta) (aId))), .bool true)]) (by kernel_rfl) (Met.cons (met_bool h0) (Met.cons (met_bool h1) (Met.cons ((eql23 ..).trans (met_bool h2)) (Met.cons (met_bool h3) (Met.cons (met_bool h4) (Met.cons (met_bool h5) (Met.cons (met_bool h6) (Met.nil))))))))
                  | false =>
                    have e : tTurn false aTau aOid aR aDelta aId false bTau bOid bR bDelta bId = (.bool true) := by simp only [tTurn, h0, h1, h2, h3, h4, h5, h6, cond_true, cond_false]
                    rw [e]
                    exact callQ_run [(16, .bool true), (20, .bool true), (54, .bool false), (65, .bool true), (70, .bool true), (74, .bool false), (77, .bool false)] (q := [(some (.bool ((chk (false) (aTau) (aOid) (aR) (aDelta) (aId)) == 0)), .bool true), (some (.bool ((chk (false) (bTau) (bOid) (bR) (bDelta) (bId)) == 0)), .bool true), (fstV ((aBin Try.prog .eql 23 (.agg #[.bool false, .int .i64 aTau, .int .i64 aOid, .int .i64 aR, .int .i64 aDelta, .int .i64 aId]) (.agg #[.bool false, .int .i64 bTau, .int .i64 bOid, .int .i64 bR, .int .i64 bDelta, .int .i64 bId])).map fun v => (v, none)), .bool false), (some (.bool (awk )), .bool true), (some (.bool ((wrapF .i64 ((dir (false) (aTau) (aOid) (aR) (aDelta) (aId) (false) (bTau) (bOid) (bR) (bDelta) (bId)) + (dir (false) (bTau) (bOid) (bR) (bDelta) (bId) (false) (aTau) (aOid) (aR) (aDelta) (aId)))) == 3)), .bool true), (some (.bool ((dir (false) (aTau) (aOid) (aR) (aDelta) (aId) (false) (bTau) (bOid) (bR) (bDelta) (bId)) == 1)), .bool false), (some (.bool (less (false) (bTau) (bOid) (bR) (bDelta) (bId) (false) (aTau) (aOid) (aR) (aDelta) (aId))), .bool false)]) (by kernel_rfl) (Met.cons (met_bool h0) (Met.cons (met_bool h1) (Met.cons ((eql23 ..).trans (met_bool h2)) (Met.cons (met_bool h3) (Met.cons (met_bool h4) (Met.cons (met_bool h5) (Met.cons (met_bool h6) (Met.nil))))))))
              | false =>
                have e : tTurn false aTau aOid aR aDelta aId false bTau bOid bR bDelta bId = (.bool false) := by simp only [tTurn, h0, h1, h2, h3, h4, cond_true, cond_false]
                rw [e]
                exact callQ_run [(16, .bool true), (20, .bool true), (54, .bool false), (65, .bool true), (70, .bool false)] (q := [(some (.bool ((chk (false) (aTau) (aOid) (aR) (aDelta) (aId)) == 0)), .bool true), (some (.bool ((chk (false) (bTau) (bOid) (bR) (bDelta) (bId)) == 0)), .bool true), (fstV ((aBin Try.prog .eql 23 (.agg #[.bool false, .int .i64 aTau, .int .i64 aOid, .int .i64 aR, .int .i64 aDelta, .int .i64 aId]) (.agg #[.bool false, .int .i64 bTau, .int .i64 bOid, .int .i64 bR, .int .i64 bDelta, .int .i64 bId])).map fun v => (v, none)), .bool false), (some (.bool (awk )), .bool true), (some (.bool ((wrapF .i64 ((dir (false) (aTau) (aOid) (aR) (aDelta) (aId) (false) (bTau) (bOid) (bR) (bDelta) (bId)) + (dir (false) (bTau) (bOid) (bR) (bDelta) (bId) (false) (aTau) (aOid) (aR) (aDelta) (aId)))) == 3)), .bool false)]) (by kernel_rfl) (Met.cons (met_bool h0) (Met.cons (met_bool h1) (Met.cons ((eql23 ..).trans (met_bool h2)) (Met.cons (met_bool h3) (Met.cons (met_bool h4) (Met.nil))))))
            | false =>
              have e : tTurn false aTau aOid aR aDelta aId false bTau bOid bR bDelta bId = (.bool false) := by simp only [tTurn, h0, h1, h2, h3, cond_true, cond_false]
              rw [e]
              exact callQ_run [(16, .bool true), (20, .bool true), (54, .bool false), (65, .bool false)] (q := [(some (.bool ((chk (false) (aTau) (aOid) (aR) (aDelta) (aId)) == 0)), .bool true), (some (.bool ((chk (false) (bTau) (bOid) (bR) (bDelta) (bId)) == 0)), .bool true), (fstV ((aBin Try.prog .eql 23 (.agg #[.bool false, .int .i64 aTau, .int .i64 aOid, .int .i64 aR, .int .i64 aDelta, .int .i64 aId]) (.agg #[.bool false, .int .i64 bTau, .int .i64 bOid, .int .i64 bR, .int .i64 bDelta, .int .i64 bId])).map fun v => (v, none)), .bool false), (some (.bool (awk )), .bool false)]) (by kernel_rfl) (Met.cons (met_bool h0) (Met.cons (met_bool h1) (Met.cons ((eql23 ..).trans (met_bool h2)) (Met.cons (met_bool h3) (Met.nil)))))
        | false =>
          cases h2 : (awk ) with
          | true =>
            cases h3 : ((dir (false) (aTau) (aOid) (aR) (aDelta) (aId) (false) (bTau) (bOid) (bR) (bDelta) (bId)) != 2) with
            | true =>
              cases h4 : ((dir (false) (bTau) (bOid) (bR) (bDelta) (bId) (false) (aTau) (aOid) (aR) (aDelta) (aId)) != 2) with
              | true =>
                cases h5 : ((dir (false) (aTau) (aOid) (aR) (aDelta) (aId) (false) (bTau) (bOid) (bR) (bDelta) (bId)) == 1) with
                | true =>
                  cases h6 : ((dir (false) (bTau) (bOid) (bR) (bDelta) (bId) (false) (aTau) (aOid) (aR) (aDelta) (aId)) == 1) with
                  | true =>
                    have e : tTurn false aTau aOid aR aDelta aId false bTau bOid bR bDelta bId = (.bool false) := by simp only [tTurn, h0, h1, h2, h3, h4, h5, h6, cond_true, cond_false]
                    rw [e]
                    exact callQ_run [(16, .bool true), (20, .bool false), (34, .bool true), (37, .bool true), (41, .bool true), (45, .bool true), (48, .bool true)] (q := [(some (.bool ((chk (false) (aTau) (aOid) (aR) (aDelta) (aId)) == 0)), .bool true), (some (.bool ((chk (false) (bTau) (bOid) (bR) (bDelta) (bId)) == 0)), .bool false), (some (.bool (awk )), .bool true), (some (.bool ((dir (false) (aTau) (aOid) (aR) (aDelta) (aId) (false) (bTau) (bOid) (bR) (bDelta) (bId)) != 2)), .bool true), (some (.bool ((dir (false) (bTau) (bOid) (bR) (bDelta) (bId) (false) (aTau) (aOid) (aR) (aDelta) (aId)) != 2)), .bool true), (some (.bool ((dir (false) (aTau) (aOid) (aR) (aDelta) (aId) (false) (bTau) (bOid) (bR) (bDelta) (bId)) == 1)), .bool true), (some (.bool ((dir (false) (bTau) (bOid) (bR) (bDelta) (bId) (false) (aTau) (aOid) (aR) (aDelta) (aId)) == 1)), .bool true)]) (by kernel_rfl) (Met.cons (met_bool h0) (Met.cons (met_bool h1) (Met.cons (met_bool h2) (Met.cons (met_bool h3) (Met.cons (met_bool h4) (Met.cons (met_bool h5) (Met.cons (met_bool h6) (Met.nil))))))))
                  | false =>
                    have e : tTurn false aTau aOid aR aDelta aId false bTau bOid bR bDelta bId = (.bool true) := by simp only [tTurn, h0, h1, h2, h3, h4, h5, h6, cond_true, cond_false]
                    rw [e]
                    exact callQ_run [(16, .bool true), (20, .bool false), (34, .bool true), (37, .bool true), (41, .bool true), (45, .bool true), (48, .bool false)] (q := [(some (.bool ((chk (false) (aTau) (aOid) (aR) (aDelta) (aId)) == 0)), .bool true), (some (.bool ((chk (false) (bTau) (bOid) (bR) (bDelta) (bId)) == 0)), .bool false), (some (.bool (awk )), .bool true), (some (.bool ((dir (false) (aTau) (aOid) (aR) (aDelta) (aId) (false) (bTau) (bOid) (bR) (bDelta) (bId)) != 2)), .bool true), (some (.bool ((dir (false) (bTau) (bOid) (bR) (bDelta) (bId) (false) (aTau) (aOid) (aR) (aDelta) (aId)) != 2)), .bool true), (some (.bool ((dir (false) (aTau) (aOid) (aR) (aDelta) (aId) (false) (bTau) (bOid) (bR) (bDelta) (bId)) == 1)), .bool true), (some (.bool ((dir (false) (bTau) (bOid) (bR) (bDelta) (bId) (false) (aTau) (aOid) (aR) (aDelta) (aId)) == 1)), .bool false)]) (by kernel_rfl) (Met.cons (met_bool h0) (Met.cons (met_bool h1) (Met.cons (met_bool h2) (Met.cons (met_bool h3) (Met.cons (met_bool h4) (Met.cons (met_bool h5) (Met.cons (met_bool h6) (Met.nil))))))))
                | false =>
                  have e : tTurn false aTau aOid aR aDelta aId false bTau bOid bR bDelta bId = (.bool true) := by simp only [tTurn, h0, h1, h2, h3, h4, h5, cond_true, cond_false]
                  rw [e]
                  exact callQ_run [(16, .bool true), (20, .bool false), (34, .bool true), (37, .bool true), (41, .bool true), (45, .bool false)] (q := [(some (.bool ((chk (false) (aTau) (aOid) (aR) (aDelta) (aId)) == 0)), .bool true), (some (.bool ((chk (false) (bTau) (bOid) (bR) (bDelta) (bId)) == 0)), .bool false), (some (.bool (awk )), .bool true), (some (.bool ((dir (false) (aTau) (aOid) (aR) (aDelta) (aId) (false) (bTau) (bOid) (bR) (bDelta) (bId)) != 2)), .bool true), (some (.bool ((dir (false) (bTau) (bOid) (bR) (bDelta) (bId) (false) (aTau) (aOid) (aR) (aDelta) (aId)) != 2)), .bool true), (some (.bool ((dir (false) (aTau) (aOid) (aR) (aDelta) (aId) (false) (bTau) (bOid) (bR) (bDelta) (bId)) == 1)), .bool false)]) (by kernel_rfl) (Met.cons (met_bool h0) (Met.cons (met_bool h1) (Met.cons (met_bool h2) (Met.cons (met_bool h3) (Met.cons (met_bool h4) (Met.cons (met_bool h5) (Met.nil)))))))
              | false =>
                have e : tTurn false aTau aOid aR aDelta aId false bTau bOid bR bDelta bId = (.bool false) := by simp only [tTurn, h0, h1, h2, h3, h4, cond_true, cond_false]
                rw [e]
                exact callQ_run [(16, .bool true), (20, .bool false), (34, .bool true), (37, .bool true), (41, .bool false)] (q := [(some (.bool ((chk (false) (aTau) (aOid) (aR) (aDelta) (aId)) == 0)), .bool true), (some (.bool ((chk (false) (bTau) (bOid) (bR) (bDelta) (bId)) == 0)), .bool false), (some (.bool (awk )), .bool true), (some (.bool ((dir (false) (aTau) (aOid) (aR) (aDelta) (aId) (false) (bTau) (bOid) (bR) (bDelta) (bId)) != 2)), .bool true), (some (.bool ((dir (false) (bTau) (bOid) (bR) (bDelta) (bId) (false) (aTau) (aOid) (aR) (aDelta) (aId)) != 2)), .bool false)]) (by kernel_rfl) (Met.cons (met_bool h0) (Met.cons (met_bool h1) (Met.cons (met_bool h2) (Met.cons (met_bool h3) (Met.cons (met_bool h4) (Met.nil))))))
            | false =>
              have e : tTurn false aTau aOid aR aDelta aId false bTau bOid bR bDelta bId = (.bool false) := by simp only [tTurn, h0, h1, h2, h3, cond_true, cond_false]
              rw [e]
              exact callQ_run [(16, .bool true), (20, .bool false), (34, .bool true), (37, .bool false)] (q := [(some (.bool ((chk (false) (aTau) (aOid) (aR) (aDelta) (aId)) == 0)), .bool true), (some (.bool ((chk (false) (bTau) (bOid) (bR) (bDelta) (bId)) == 0)), .bool false), (some (.bool (awk )), .bool true), (some (.bool ((dir (false) (aTau) (aOid) (aR) (aDelta) (aId) (false) (bTau) (bOid) (bR) (bDelta) (bId)) != 2)), .bool false)]) (by kernel_rfl) (Met.cons (met_bool h0) (Met.cons (met_bool h1) (Met.cons (met_bool h2) (Met.cons (met_bool h3) (Met.nil)))))
          | false =>
            have e : tTurn false aTau aOid aR aDelta aId false bTau bOid bR bDelta bId = (.bool false) := by simp only [tTurn, h0, h1, h2, cond_true, cond_false]
            rw [e]
            exact callQ_run [(16, .bool true), (20, .bool false), (34, .bool false)] (q := [(some (.bool ((chk (false) (aTau) (aOid) (aR) (aDelta) (aId)) == 0)), .bool true), (some (.bool ((chk (false) (bTau) (bOid) (bR) (bDelta) (bId)) == 0)), .bool false), (some (.bool (awk )), .bool false)]) (by kernel_rfl) (Met.cons (met_bool h0) (Met.cons (met_bool h1) (Met.cons (met_bool h2) (Met.nil))))
      | false =>
        cases h1 : (awk ) with
        | true =>
          cases h2 : ((dir (false) (aTau) (aOid) (aR) (aDelta) (aId) (false) (bTau) (bOid) (bR) (bDelta) (bId)) != 2) with
          | true =>
            cases h3 : ((dir (false) (bTau) (bOid) (bR) (bDelta) (bId) (false) (aTau) (aOid) (aR) (aDelta) (aId)) != 2) with
            | true =>
              cases h4 : ((dir (false) (aTau) (aOid) (aR) (aDelta) (aId) (false) (bTau) (bOid) (bR) (bDelta) (bId)) == 1) with
              | true =>
                cases h5 : ((dir (false) (bTau) (bOid) (bR) (bDelta) (bId) (false) (aTau) (aOid) (aR) (aDelta) (aId)) == 1) with
                | true =>
                  have e : tTurn false aTau aOid aR aDelta aId false bTau bOid bR bDelta bId = (.bool false) := by simp only [tTurn, h0, h1, h2, h3, h4, h5, cond_true, cond_false]
                  rw [e]
                  exact callQ_run [(16, .bool false), (34, .bool true), (37, .bool true), (41, .bool true), (45, .bool true), (48, .bool true)] (q := [(some (.bool ((chk (false) (aTau) (aOid) (aR) (aDelta) (aId)) == 0)), .bool false), (some (.bool (awk )), .bool true), (some (.bool ((dir (false) (aTau) (aOid) (aR) (aDelta) (aId) (false) (bTau) (bOid) (bR) (bDelta) (bId)) != 2)), .bool true), (some (.bool ((dir (false) (bTau) (bOid) (bR) (bDelta) (bId) (false) (aTau) (aOid) (aR) (aDelta) (aId)) != 2)), .bool true), (some (.bool ((dir (false) (aTau) (aOid) (aR) (aDelta) (aId) (false) (bTau) (bOid) (bR) (bDelta) (bId)) == 1)), .bool true), (some (.bool ((dir (false) (bTau) (bOid) (bR) (bDelta) (bId) (false) (aTau) (aOid) (aR) (aDelta) (aId)) == 1)), .bool true)]) (by kernel_rfl) (Met.cons (met_bool h0) (Met.cons (met_bool h1) (Met.cons (met_bool h2) (Met.cons (met_bool h3) (Met.cons (met_bool h4) (Met.cons (met_bool h5) (Met.nil)))))))
                | false =>
                  have e : tTurn false aTau aOid aR aDelta aId false bTau bOid bR bDelta bId = (.bool true) := by simp only [tTurn, h0, h1, h2, h3, h4, h5, cond_true, cond_false]
                  rw [e]
                  exact callQ_run [(16, .bool false), (34, .bool true), (37, .bool true), (41, .bool true), (45, .bool true), (48, .bool false)] (q := [(some (.bool ((chk (false) (aTau) (aOid) (aR) (aDelta) (aId)) == 0)), .bool false), (some (.bool (awk )), .bool true), (some (.bool ((dir (false) (aTau) (aOid) (aR) (aDelta) (aId) (false) (bTau) (bOid) (bR) (bDelta) (bId)) != 2)), .bool true), (some (.bool ((dir (false) (bTau) (bOid) (bR) (bDelta) (bId) (false) (aTau) (aOid) (aR) (aDelta) (aId)) != 2)), .bool true), (some (.bool ((dir (false) (aTau) (aOid) (aR) (aDelta) (aId) (false) (bTau) (bOid) (bR) (bDelta) (bId)) == 1)), .bool true), (some (.bool ((dir (false) (bTau) (bOid) (bR) (bDelta) (bId) (false) (aTau) (aOid) (aR) (aDelta) (aId)) == 1)), .bool false)]) (by kernel_rfl) (Met.cons (met_bool h0) (Met.cons (met_bool h1) (Met.cons (met_bool h2) (Met.cons (met_bool h3) (Met.cons (met_bool h4) (Met.cons (met_bool h5) (Met.nil)))))))
              | false =>
                have e : tTurn false aTau aOid aR aDelta aId false bTau bOid bR bDelta bId = (.bool true) := by simp only [tTurn, h0, h1, h2, h3, h4, cond_true, cond_false]
                rw [e]
                exact callQ_run [(16, .bool false), (34, .bool true), (37, .bool true), (41, .bool true), (45, .bool false)] (q := [(some (.bool ((chk (false) (aTau) (aOid) (aR) (aDelta) (aId)) == 0)), .bool false), (some (.bool (awk )), .bool true), (some (.bool ((dir (false) (aTau) (aOid) (aR) (aDelta) (aId) (false) (bTau) (bOid) (bR) (bDelta) (bId)) != 2)), .bool true), (some (.bool ((dir (false) (bTau) (bOid) (bR) (bDelta) (bId) (false) (aTau) (aOid) (aR) (aDelta) (aId)) != 2)), .bool true), (some (.bool ((dir (false) (aTau) (aOid) (aR) (aDelta) (aId) (false) (bTau) (bOid) (bR) (bDelta) (bId)) == 1)), .bool false)]) (by kernel_rfl) (Met.cons (met_bool h0) (Met.cons (met_bool h1) (Met.cons (met_bool h2) (Met.cons (met_bool h3) (Met.cons (met_bool h4) (Met.nil))))))
            | false =>
              have e : tTurn false aTau aOid aR aDelta aId false bTau bOid bR bDelta bId = (.bool false) := by simp only [tTurn, h0, h1, h2, h3, cond_true, cond_false]
              rw [e]
              exact callQ_run [(16, .bool false), (34, .bool true), (37, .bool true), (41, .bool false)] (q := [(some (.bool ((chk (false) (aTau) (aOid) (aR) (aDelta) (aId)) == 0)), .bool false), (some (.bool (awk )), .bool true), (some (.bool ((dir (false) (aTau) (aOid) (aR) (aDelta) (aId) (false) (bTau) (bOid) (bR) (bDelta) (bId)) != 2)), .bool true), (some (.bool ((dir (false) (bTau) (bOid) (bR) (bDelta) (bId) (false) (aTau) (aOid) (aR) (aDelta) (aId)) != 2)), .bool false)]) (by kernel_rfl) (Met.cons (met_bool h0) (Met.cons (met_bool h1) (Met.cons (met_bool h2) (Met.cons (met_bool h3) (Met.nil)))))
          | false =>
            have e : tTurn false aTau aOid aR aDelta aId false bTau bOid bR bDelta bId = (.bool false) := by simp only [tTurn, h0, h1, h2, cond_true, cond_false]
            rw [e]
            exact callQ_run [(16, .bool false), (34, .bool true), (37, .bool false)] (q := [(some (.bool ((chk (false) (aTau) (aOid) (aR) (aDelta) (aId)) == 0)), .bool false), (some (.bool (awk )), .bool true), (some (.bool ((dir (false) (aTau) (aOid) (aR) (aDelta) (aId) (false) (bTau) (bOid) (bR) (bDelta) (bId)) != 2)), .bool false)]) (by kernel_rfl) (Met.cons (met_bool h0) (Met.cons (met_bool h1) (Met.cons (met_bool h2) (Met.nil))))
        | false =>
          have e : tTurn false aTau aOid aR aDelta aId false bTau bOid bR bDelta bId = (.bool false) := by simp only [tTurn, h0, h1, cond_true, cond_false]
          rw [e]
          exact callQ_run [(16, .bool false), (34, .bool false)] (q := [(some (.bool ((chk (false) (aTau) (aOid) (aR) (aDelta) (aId)) == 0)), .bool false), (some (.bool (awk )), .bool false)]) (by kernel_rfl) (Met.cons (met_bool h0) (Met.cons (met_bool h1) (Met.nil)))


theorem cmp3_neg (a b : Int) : cmp3 b a = -cmp3 a b := by
  unfold cmp3
  rcases Int.lt_trichotomy a b with h | h | h
  · simp [h, Int.not_lt.2 (Int.le_of_lt h)]
  · subst h; simp
  · simp [h, Int.not_lt.2 (Int.le_of_lt h)]
theorem cmp3_zero (a b : Int) (h : cmp3 a b = 0) : a = b := by
  unfold cmp3 at h
  rcases Int.lt_trichotomy a b with q | q | q
  · simp [q] at h
  · exact q
  · simp [q, Int.not_lt.2 (Int.le_of_lt q)] at h
theorem cmp3_self (a : Int) : cmp3 a a = 0 := by simp [cmp3]
theorem or3_neg {x y z : Int} (hx : x = -1 ∨ x = 0 ∨ x = 1) (hy : y = -1 ∨ y = 0 ∨ y = 1) : or3 (-x) (-y) (-z) = -or3 x y z := by
  rcases hx with rfl | rfl | rfl <;> rcases hy with rfl | rfl | rfl <;> simp [or3]
theorem or3_zero {x y z : Int} (h : or3 x y z = 0) : x = 0 ∧ y = 0 ∧ z = 0 := by
  unfold or3 at h
  cases hx : (x == 0)
  · rw [hx] at h; simp only [cond_false] at h; rw [h] at hx; cases hx
  · rw [hx] at h
    cases hy : (y == 0)
    · rw [hy] at h; simp only [cond_false, cond_true] at h; rw [h] at hy; cases hy
    · rw [hy] at h; simp only [cond_true] at h
      exact ⟨eq_of_beq hx, eq_of_beq hy, h⟩

/-- Two heights that are right and told: each is less, or they are alike. -/
theorem less_two {t o r d i t' o' r' d' i' : Int} (k : known false t o r d i = true) (k' : known false t' o' r' d' i' = true) :
    (same23 false t o r d i false t' o' r' d' i' = true → less false t o r d i false t' o' r' d' i' = false ∧ less false t' o' r' d' i' false t o r d i = false) ∧
    (same23 false t o r d i false t' o' r' d' i' = false → less false t' o' r' d' i' false t o r d i = !less false t o r d i false t' o' r' d' i') := by
  unfold less lev0 lev1 lev2
  simp only [k, k', cond_true, Bool.true_and]
  unfold ord3
  rw [cmp3_neg t t', cmp3_neg o o', cmp3_neg r r', cmp3_neg d d', cmp3_neg i i', or3_neg (threecmp3 ..) (threecmp3 ..), or3_neg (threeor3 (threecmp3 ..) (threecmp3 ..) (threecmp3 ..)) (threecmp3 ..)]
  constructor
  · intro h
    simp only [same23, Bool.and_eq_true, beq_iff_eq] at h
    obtain ⟨_, rfl, rfl, rfl, rfl, rfl, _⟩ := h
    simp only [cmp3_self]
    exact ⟨rfl, rfl⟩
  · intro h
    have h3 := threeor3 (threeor3 (threecmp3 t t') (threecmp3 o o') (threecmp3 r r')) (threecmp3 d d') (threecmp3 i i')
    have hne : or3 (or3 (cmp3 t t') (cmp3 o o') (cmp3 r r')) (cmp3 d d') (cmp3 i i') ≠ 0 := by
      intro h0
      obtain ⟨h1, h2, h4⟩ := or3_zero h0
      obtain ⟨h5, h6, h7⟩ := or3_zero h1
      have e1 := cmp3_zero _ _ h5
      have e2 := cmp3_zero _ _ h6
      have e3 := cmp3_zero _ _ h7
      have e4 := cmp3_zero _ _ h2
      have e5 := cmp3_zero _ _ h4
      subst e1; subst e2; subst e3; subst e4; subst e5
      simp [same23] at h
    generalize or3 (or3 (cmp3 t t') (cmp3 o o') (cmp3 r r')) (cmp3 d d') (cmp3 i i') = v at *
    rcases h3 with rfl | rfl | rfl
    · rfl
    · exact absurd rfl hne
    · rfl

theorem turn_true (n : Bool) (t o r d i : Int) (n' : Bool) (t' o' r' d' i' : Int) : tTurn n t o r d i n' t' o' r' d' i' = .bool true := by
  have ht : ∀ t o r d i, known true t o r d i = false := fun _ _ _ _ _ => rfl
  have hf : ∀ t o r d i, known false t o r d i = okH false t o r d i := fun _ _ _ _ _ => rfl
  cases n <;> cases n'
  · unfold tTurn
    simp only [cond_true, cond_false, chk_zero, awk, dir, hf]
    cases h1 : okH false t o r d i <;> cases h2 : okH false t' o' r' d' i' <;> simp only [cond_true, cond_false] <;> try rfl
    have h3 := less_two (t := t) (o := o) (r := r) (d := d) (i := i) (t' := t') (o' := o') (r' := r') (d' := d') (i' := i') h1 h2
    generalize same23 false t o r d i false t' o' r' d' i' = s at *
    generalize less false t o r d i false t' o' r' d' i' = l at *
    generalize less false t' o' r' d' i' false t o r d i = l' at *
    cases s <;> cases l <;> cases l' <;> first | rfl | (simp at h3)
  · unfold tTurn
    simp only [cond_true, cond_false, chk_zero, awk, dir, hf, ht]
    cases h1 : okH false t o r d i <;> cases h2 : okH true t' o' r' d' i' <;> simp only [cond_true, cond_false] <;> rfl
  · unfold tTurn
    simp only [cond_true, cond_false, chk_zero, awk, dir, hf, ht]
    cases h1 : okH true t o r d i <;> cases h2 : okH false t' o' r' d' i' <;> simp only [cond_true, cond_false] <;> rfl
  · unfold tTurn
    simp only [cond_true, cond_false, chk_zero, awk, dir, hf, ht]
    cases h1 : okH true t o r d i <;> cases h2 : okH true t' o' r' d' i' <;> simp only [cond_true, cond_false] <;> rfl
end Go.Proofs.Ytiogdklmhpllfaa.LtA
