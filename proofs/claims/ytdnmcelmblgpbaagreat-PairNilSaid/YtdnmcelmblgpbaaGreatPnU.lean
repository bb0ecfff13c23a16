/- maps.Keys and slices.Collect at this program; the example of the statements on pairs, run from beginning to end. -/
import Derived.Test.YtdnmcelmblgpbaaGreatAi31
import Derived.Test.YtdnmcelmblgpbaaGreatPnF
set_option linter.unusedVariables false
set_option linter.unusedSimpArgs false
set_option maxRecDepth 100000
namespace Go.Proofs.YtdnmcelmblgpbaaGreat.PnA
open Go Go.Proofs Go.Proofs.YtdnmcelmblgpbaaGreat.AI Go.RowKit Go.Shelf

def kf : Nat → Nat
  | 7 => 159
  | 8 => 155
  | 10 => 194
  | 11 => 187
  | n => n
def kt : Nat → Nat
  | 3 => 36
  | 23 => 162
  | 24 => 64
  | 26 => 3
  | 27 => 209
  | 28 => 210
  | 33 => 110
  | n => n
def kR : Ren := ⟨kf, kt, fun n => n⟩
theorem L7 : SlLaysZI.n7 Tryz.prog kR where
  mixed := follows
  f7 := ⟨ "maps.Keys[map[int][]thalweg/api.Object,int,[]thalweg/api.Object]", by decide, by kernel_rfl⟩
  f10 := ⟨ "maps.Keys[map[int][]thalweg/api.Object,int,[]thalweg/api.Object]$1", by decide, by kernel_rfl⟩
  t0 := by kernel_rfl
  a0 := fun w => by kernel_rfl
  z0 := fun w => by kernel_rfl
  v0 := fun w => by kernel_rfl
  t4 := by kernel_rfl
  a4 := fun w => by kernel_rfl
  z4 := fun w => by kernel_rfl
  v4 := fun w => by kernel_rfl
  t23 := by kernel_rfl
  a23 := fun w => by kernel_rfl
  z23 := fun w => by kernel_rfl
  v23 := fun w => by kernel_rfl
  t26 := by kernel_rfl
  a26 := fun w => by kernel_rfl
  z26 := fun w => by kernel_rfl
  v26 := fun w => by kernel_rfl
  t27 := by kernel_rfl
  a27 := fun w => by kernel_rfl
  z27 := fun w => by kernel_rfl
  v27 := fun w => by kernel_rfl
  t28 := by kernel_rfl
  a28 := fun w => by kernel_rfl
  z28 := fun w => by kernel_rfl
  v28 := fun w => by kernel_rfl
  t33 := by kernel_rfl
  a33 := fun w => by kernel_rfl
  z33 := fun w => by kernel_rfl
  v33 := fun w => by kernel_rfl
theorem L8 : SlLaysZI.n8 Tryz.prog kR where
  mixed := follows
  f8 := ⟨ "slices.Collect[int]", by decide, by kernel_rfl⟩
  f11 := ⟨ "slices.AppendSeq[[]int,int]", by decide, by kernel_rfl⟩
  t0 := L7.t0
  a0 := L7.a0
  z0 := L7.z0
  v0 := L7.v0
  t24 := by kernel_rfl
  a24 := fun w => by kernel_rfl
  z24 := fun w => by kernel_rfl
  v24 := fun w => by kernel_rfl
  t26 := L7.t26
  a26 := L7.a26
  z26 := L7.z26
  v26 := L7.v26
  t28 := L7.t28
  a28 := L7.a28
  z28 := L7.z28
  v28 := L7.v28
  i26 := by kernel_rfl
theorem hkK : CallGoal Tryz.prog 159 (gKeys 194 162) := hkKeys L7
theorem hkC : CallGoal Tryz.prog 155 (gCollect 194 3) := hkCollect L8 { L7 with }
noncomputable def E0 : Ext := extG (extOf Tryz.prog) [(159, gKeys 194 162), (155, gCollect 194 3)]
theorem E0_ok : ExtOk Tryz.prog E0 := extG_ok (extOf_ok _) (.cons hkK (.cons hkC .nil))
def gAwake : List Value → Option Value
  | [] => some (.bool true)
  | _ => none
theorem awake_run : (aCall Tryz.prog E0 4000 9 [] hp0).map (fun r => r.1) = some (.bool true) := by kernel_rfl
theorem hkAwake : HookGoal Tryz.prog 9 gAwake := hook_of (ext := E0) E0_ok follows Tryz.func9 (by kernel_rfl) fun args v h => by
  unfold gAwake at h
  split at h
  · cases h
    obtain ⟨⟨u, hp⟩, h1, h2⟩ := Option.map_eq_some_iff.1 awake_run
    simp only at h2
    subst h2
    exact ⟨rfl, rfl, _, hp, h1⟩
  · cases h
end Go.Proofs.YtdnmcelmblgpbaaGreat.PnA
