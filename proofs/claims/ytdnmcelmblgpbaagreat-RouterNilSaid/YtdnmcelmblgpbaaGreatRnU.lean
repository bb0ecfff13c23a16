/- The closed calls of core.Up in the example of RouterNil's statement, each run by itself. -/
import Derived.Test.YtdnmcelmblgpbaaGreatAi30
import Derived.Test.YtdnmcelmblgpbaaGreatProg
set_option linter.unusedVariables false
set_option linter.unusedSimpArgs false
set_option maxRecDepth 100000
namespace Go.Proofs.YtdnmcelmblgpbaaGreat.RnA
open Go Go.Proofs Go.Proofs.YtdnmcelmblgpbaaGreat.AI Go.RowKit

def i64 (n : Nat) : Value := .int .i64 (Int.ofNat n)
/-- A route of node 5's, to destination k, without views. -/
def upCells (k : Nat) (v : Value) : List Value := [i64 5, i64 k, .bool (!Nat.beq k 5), i64 0, i64 0, i64 0, i64 0, i64 5, v, .bool false, .bool false, .bool false, i64 0]
def upArgs (k : Nat) : List Value := [.agg ⟨upCells k (.slice none 0 0)⟩, i64 3]
def upK (k : Nat) : List Nat := match Nat.beq k 5 with | true => [19, 22] | false => [19]
def upOut (k B : Nat) : Value × List Blk := match Nat.beq k 5 with
  | false => (.tuple #[.agg ⟨upCells k (.slice (some ⟨B, 0, none⟩) 1 22)⟩, .slice none 0 0, i64 0], [.cells 115 [i64 3, .bool true, i64 0, i64 0, i64 0, i64 0, i64 3] false])
  | true => (.tuple #[.agg ⟨upCells k (.slice (some ⟨B, 0, none⟩) 1 22)⟩, .slice (some ⟨B + 1, 0, none⟩) 1 40, i64 0],
      [.cells 115 [i64 3, .bool true, i64 0, i64 0, i64 0, i64 0, i64 3] false, .cells 235 [i64 3, i64 2, i64 5, .bool false, i64 0, i64 0, i64 0, i64 0, i64 5, i64 0, i64 0, i64 0, i64 0] false])
noncomputable def upRun (B k : Nat) : Option (Value × List Blk × Bool) := (aCall Tryz.prog (extOf Tryz.prog) 4000 83 (upArgs k) hp0).map (lookK (upK k) B)
def upSays (B k : Nat) : Option (Value × List Blk × Bool) := some ((upOut k B).1, (upOut k B).2, true)
section
variable (B : Nat)
theorem up0 : (List.range' 0 8).map (upRun B) = (List.range' 0 8).map (upSays B) := by kernel_rfl
theorem up1 : (List.range' 8 8).map (upRun B) = (List.range' 8 8).map (upSays B) := by kernel_rfl
theorem up2 : (List.range' 16 8).map (upRun B) = (List.range' 16 8).map (upSays B) := by kernel_rfl
theorem up3 : (List.range' 24 8).map (upRun B) = (List.range' 24 8).map (upSays B) := by kernel_rfl
theorem up4 : (List.range' 32 8).map (upRun B) = (List.range' 32 8).map (upSays B) := by kernel_rfl
theorem up5 : (List.range' 40 8).map (upRun B) = (List.range' 40 8).map (upSays B) := by kernel_rfl
theorem up6 : (List.range' 48 8).map (upRun B) = (List.range' 48 8).map (upSays B) := by kernel_rfl
theorem up7 : (List.range' 56 8).map (upRun B) = (List.range' 56 8).map (upSays B) := by kernel_rfl
theorem of_map {α : Type} {f g : Nat → α} {s n k : Nat} (h : (List.range' s n).map f = (List.range' s n).map g) (h1 : s ≤ k) (h2 : k < s + n) : f k = g k :=
  List.map_inj_left.1 h k (by simp [List.mem_range'_1]; omega)
theorem up_all {k : Nat} (hk : k < 64) : upRun B k = upSays B k := by
  by_cases h1 : k < 8
  · exact of_map (up0 B) (by omega) (by omega)
  by_cases h2 : k < 16
  · exact of_map (up1 B) (by omega) (by omega)
  by_cases h3 : k < 24
  · exact of_map (up2 B) (by omega) (by omega)
  by_cases h4 : k < 32
  · exact of_map (up3 B) (by omega) (by omega)
  by_cases h5 : k < 40
  · exact of_map (up4 B) (by omega) (by omega)
  by_cases h6 : k < 48
  · exact of_map (up5 B) (by omega) (by omega)
  by_cases h7 : k < 56
  · exact of_map (up6 B) (by omega) (by omega)
  · exact of_map (up7 B) (by omega) (by omega)
end
def kOf : List Value → Nat
  | [.agg cs, _] => match cs.toList with
    | _ :: .int _ (.ofNat k) :: _ => k
    | _ => 64
  | _ => 64
def eqArgs : List Value → List Value → Bool
  | [a, x], [b, y] => veq a b && veq x y
  | _, _ => false
theorem eqArgs_eq {a b : List Value} (h : eqArgs a b = true) : a = b := by
  unfold eqArgs at h
  split at h
  · obtain ⟨h1, h2⟩ := Bool.and_eq_true_iff.1 h
    rw [veq_eq h1, veq_eq h2]
  · cases h
def gUp : Deep := fun args => match Nat.blt (kOf args) 64 && eqArgs args (upArgs (kOf args)) with
  | true => some fun B => upOut (kOf args) B
  | false => none
theorem follows : Tryz.prog.follows .mixedOrders = true := by kernel_rfl
theorem hkUp : CallGoal Tryz.prog 83 (tellK gUp) := deep_goal (extOf_ok _) follows Tryz.func83 (by kernel_rfl) fun args r h => by
  unfold gUp at h
  split at h
  · rename_i hb
    cases h
    obtain ⟨h1, h2⟩ := Bool.and_eq_true_iff.1 hb
    have e := eqArgs_eq h2
    have hk : kOf args < 64 := by simpa [Nat.blt_eq] using h1
    refine ⟨?_, upK (kOf args), 4000, ?_, fun B => ?_⟩
    · rw [e]; rfl
    · unfold upK; split <;> rfl
    · have := up_all B hk
      unfold upRun upSays at this
      rw [← e] at this
      exact this
  · cases h
end Go.Proofs.YtdnmcelmblgpbaaGreat.RnA
