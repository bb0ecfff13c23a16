/- The example of RouterNil's statement, run from beginning to end. -/
import Derived.Test.YtdnmcelmblgpbaaGreatRnU
set_option linter.unusedVariables false
set_option linter.unusedSimpArgs false
set_option maxRecDepth 100000
namespace Go.Proofs.YtdnmcelmblgpbaaGreat.RnA
open Go Go.Proofs Go.Proofs.YtdnmcelmblgpbaaGreat.AI Go.RowKit

noncomputable def E0 : Ext := extG (extOf Tryz.prog) [(83, tellK gUp)]
theorem E0_ok : ExtOk Tryz.prog E0 := extG_ok (extOf_ok _) (.cons hkUp .nil)
def gAwake : List Value → Option Value
  | [] => some (.bool true)
  | _ => none
theorem awake_run : (aCall Tryz.prog E0 4000 16 [] hp0).map (fun r => r.1) = some (.bool true) := by kernel_rfl
theorem hkAwake : HookGoal Tryz.prog 16 gAwake := hook_of (ext := E0) E0_ok follows Tryz.func16 (by kernel_rfl) fun args v h => by
  unfold gAwake at h
  split at h
  · cases h
    obtain ⟨⟨u, hp⟩, h1, h2⟩ := Option.map_eq_some_iff.1 awake_run
    simp only at h2
    subst h2
    exact ⟨rfl, rfl, _, hp, h1⟩
  · cases h
end Go.Proofs.YtdnmcelmblgpbaaGreat.RnA
