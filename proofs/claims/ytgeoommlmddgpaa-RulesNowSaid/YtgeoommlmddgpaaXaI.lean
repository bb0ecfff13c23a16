/- LinksLevels: its runs. -/
import Derived.Test.YtgeoommlmddgpaaXaH
import Derived.Test.YtgeoommlmddgpaaXaE
set_option linter.unusedVariables false
set_option linter.unusedSimpArgs false
set_option maxRecDepth 100000
namespace Go.Proofs.Ytgeoommlmddgpaa.LtL
open Go Go.Proofs Go.Proofs.Ytgeoommlmddgpaa.AI Go.RowKit Go.Proofs.Ytgeoommlmddgpaa.Sort Go.Proofs.Ytgeoommlmddgpaa.LtA

def vD (f : Bool) (b k : Nat) : Value := bif f then .slice (some ⟨b, 0, none⟩) k 11 else nilS
noncomputable def E4 : Ext := extG (extH Try.prog [(19, g16), (26, g31), (25, g30)]) [(21, GLv), (24, G18M)]
theorem E4_ok : ExtOk Try.prog E4 := extG_ok (extH_ok (.cons hk16 (.cons hk31 (.cons hk30 .nil)))) (.cons hkLv (.cons hkG18M .nil))
theorem q4 (v : Value) (O : List Blk) (g : Nat → Value) : retVal Try.prog Try.f4 (stOf 96 g [(2, v)] O) = some v := by kernel_rfl
end Go.Proofs.Ytgeoommlmddgpaa.LtL
namespace Go.Proofs.Ytgeoommlmddgpaa.LtL
open Go Go.Proofs Go.Proofs.Ytgeoommlmddgpaa.AI Go.RowKit Go.Proofs.Ytgeoommlmddgpaa.Sort Go.Proofs.Ytgeoommlmddgpaa.LtA

/-! ### The levels -/
theorem ded_len2 (l : List Lev) : (dlev l).length ≤ l.length := by
  cases l with
  | nil => exact Nat.le_refl _
  | cons y l => have := ded_len (sortL (y :: l)); rw [sortL_len] at this; exact this
/-! ### Those that were seen -/
def hitB (us : List ViewV) (y : Lev) : Bool := us.any fun x => !x.n && (lvV x == y)
/-- In the midst of a view's levels. -/
def mid (us : List ViewV) (x : ViewV) (ls : List Lev) (k : Nat) : List Bool := (ls.take k).map (hitB (us ++ [x])) ++ (ls.drop k).map (hitB us)
/-! ### What is owed -/
open Classical in
theorem G18M_of {vs : List ViewV} {s : Value} {hp : Hp} (h : TN vs s hp) (hn : Long vs) : G18M [s] hp = some (errI (rightB vs), heapOf [.dead] hp) := by
  unfold G18M toldQ
  have hx : ∃ vs, TN vs s hp ∧ Long vs := ⟨vs, h, hn⟩
  simp only
  rw [dif_pos hx, hx.choose_spec.1.uniq h]
  show (if TN vs s hp then _ else _) = _
  rw [if_pos h]
  show some (sh3 _ _ (errI (rightB vs)), _) = _
  cases rightB vs <;> rfl
theorem fixN {p : Nat} : ∀ i, i < p → ∀ o, ([] : List Blk)[i]? = some o → Fixed 0 o := fun i _ o h => by simp at h
theorem lloadb {hp : Hp} {b : Nat} {us : List Lev} {i : Nat} {x : Lev} (hg : hp.get b = some (ownL us)) (h : us[i]? = some x) : aLoad Try.prog hp.get 42 (pb b (i * 3)) = some (lA x) := by
  have hne : us ≠ [] := fun e => by subst e; simp at h
  rw [ownL_ne hne] at hg
  simp only [aLoad, pb, hg, lB, aggL, sizeL]
  have := flat_getR (f := lc) (k := 3) (ps := us) (fun _ _ => rfl) h
  unfold lrow
  rw [this]
  rfl
end Go.Proofs.Ytgeoommlmddgpaa.LtL
