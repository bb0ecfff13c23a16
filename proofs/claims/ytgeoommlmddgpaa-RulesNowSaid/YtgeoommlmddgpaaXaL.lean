/- thalwegref18.Same told; LinksLie: its runs. -/
import Derived.Test.YtgeoommlmddgpaaXaK
import Derived.Test.YtgeoommlmddgpaaXaI
set_option linter.unusedVariables false
set_option linter.unusedSimpArgs false
set_option maxRecDepth 100000
namespace Go.Proofs.Ytgeoommlmddgpaa.LtL
open Go Go.Proofs Go.Proofs.Ytgeoommlmddgpaa.AI Go.RowKit Go.Proofs.Ytgeoommlmddgpaa.Sort Go.Proofs.Ytgeoommlmddgpaa.LtA

/-- Two rows of levels that are alike. -/
def SL (us : List Lev) (s t : Value) (hp : Hp) : Prop :=
  (s = nilS ∧ t = nilS) ∨ ∃ b1 b2, s = .slice (some ⟨b1, 0, none⟩) us.length 11 ∧ t = .slice (some ⟨b2, 0, none⟩) us.length 10 ∧ b1 ≠ b2 ∧ hp.get b1 = some (lB us) ∧ hp.get b2 = some (lB us)
open Classical in
noncomputable def gSL : HeapFn := fun args hp => match args with
  | [s, t] => if ∃ us, us.length < 1000000 ∧ SL us s t hp then some (.bool true, heapOf ([] ++ [.dead]) hp) else none
  | _ => none
end Go.Proofs.Ytgeoommlmddgpaa.LtL
namespace Go.Proofs.Ytgeoommlmddgpaa.LtL
open Go Go.Proofs Go.Proofs.Ytgeoommlmddgpaa.AI Go.RowKit Go.Proofs.Ytgeoommlmddgpaa.Sort Go.Proofs.Ytgeoommlmddgpaa.LtA

/-! ### Same, of rows of levels -/
open Classical in
theorem gSL_of {us : List Lev} {hp : Hp} {b1 b2 : Nat} (hne : b1 ≠ b2) (h1 : hp.get b1 = some (ownL us)) (h2 : hp.get b2 = some (ownL us)) (hn : us.length < 1000000) : gSL [vD (!us.isEmpty) b1 us.length, vLv (!us.isEmpty) b2 us.length] hp = some (.bool true, heapOf [.dead] hp) := by
  have h : SL us (vD (!us.isEmpty) b1 us.length) (vLv (!us.isEmpty) b2 us.length) hp := by
    cases us with
    | nil => exact .inl ⟨rfl, rfl⟩
    | cons i us => exact .inr ⟨b1, b2, rfl, rfl, hne, h1, h2⟩
  unfold gSL
  simp only
  rw [if_pos ⟨us, hn, h⟩]; rfl
/-! ### The law -/
theorem hbl {hp : Hp} {b : Nat} {y : ViewV} (h : hp.get b = some (hB y)) : aLoad Try.prog hp.get 24 (pb b 0) = some (hcA y) := by
  simp only [aLoad, pb, h, hB, agg23, size23]
  rfl
end Go.Proofs.Ytgeoommlmddgpaa.LtL
