/- Plain facts of stable sorting: putting in, merging, what a merge falls into. -/
import Derived.Test.YtgeoommlmddgpaaXaD
import Derived.Test.YtgeoommlmddgpaaAi40
set_option linter.unusedVariables false
set_option linter.unusedSimpArgs false
set_option maxRecDepth 100000
namespace Go.Proofs.Ytgeoommlmddgpaa.Sort

section
variable {α : Type} (lt : α → α → Bool)
/-- Put in, ahead of all at the end that it is less than. -/
def insB (S : List α) (x : α) : List α := (S.reverse.dropWhile (lt x)).reverse ++ x :: (S.reverse.takeWhile (lt x)).reverse
def mrg (L R : List α) : List α := R.foldl (insB lt) L
def ssort (S : List α) : List α := mrg lt [] S
def Srt (S : List α) : Prop := S.Pairwise fun u v => lt v u = false
structure Swo (K : α → Prop) : Prop where
  asym : ∀ x y, K x → K y → lt x y = true → lt y x = false
  ntr : ∀ x y z, K x → K y → K z → lt x y = false → lt y z = false → lt x z = false
end
section
variable {α : Type} {lt : α → α → Bool} {K : α → Prop}
theorem Swo.trans (h : Swo lt K) {x y z : α} (hx : K x) (hy : K y) (hz : K z) (h1 : lt x y = true) (h2 : lt y z = true) : lt x z = true := by
  cases e : lt x z with
  | true => rfl
  | false => rw [h.ntr x z y hx hz hy e (h.asym y z hy hz h2)] at h1; cases h1
end
end Go.Proofs.Ytgeoommlmddgpaa.Sort
namespace Go.Proofs.Ytgeoommlmddgpaa.LtA
open Go Go.Proofs Go.Proofs.Ytgeoommlmddgpaa.AI Go.RowKit

/-! ### Rows -/
def IsRow (us : List ViewV) (s : Value) (hp : Hp) : Prop := ∃ b c, s = rowS b us.length c ∧ hp.get b = some (rowB us)
theorem IsRow.uniq {us vs : List ViewV} {s : Value} {hp : Hp} (h1 : IsRow us s hp) (h2 : IsRow vs s hp) : us = vs := by
  obtain ⟨b, c, rfl, hb⟩ := h1
  obtain ⟨b', c', e, hb'⟩ := h2
  simp only [rowS, Value.slice.injEq, Option.some.injEq, Addr.mk.injEq, and_true] at e
  obtain ⟨rfl, -, -⟩ := e
  rw [hb] at hb'
  simp only [rowB, Option.some.injEq, Blk.cells.injEq, true_and, and_true] at hb'
  exact vrow_inj hb'
open Classical in
/-- Told at whatever row, which it may write. -/
noncomputable def atW (k : List ViewV → HeapFn) : HeapFn := fun args hp => match args with
  | s :: _ => if h : ∃ us, IsRow us s hp ∧ us.length < 1000000 then k h.choose args hp else none
  | _ => none
theorem atW_of {k : List ViewV → HeapFn} {us : List ViewV} {s : Value} {r : List Value} {hp : Hp} (h : IsRow us s hp) (hn : us.length < 1000000) : atW k (s :: r) hp = k us (s :: r) hp := by
  unfold atW
  have hx : ∃ us, IsRow us s hp ∧ us.length < 1000000 := ⟨us, h, hn⟩
  simp only
  rw [dif_pos hx]
  rw [hx.choose_spec.1.uniq h]
def vU : Value := .tuple #[]
/-! ### swapRange -/
section
variable (us us1 us2 : List ViewV) (n c a m k i : Nat) (x y : ViewV) (f : Value) (g : Nat → Value)
end
/-- Two parts of a row change places. -/
def swapR (us : List ViewV) (a m k : Nat) : List ViewV := us.take a ++ (us.drop m).take k ++ (us.drop (a + k)).take (m - (a + k)) ++ (us.drop a).take k ++ us.drop (m + k)
theorem swapR_of {A X B Y C : List ViewV} {a m k : Nat} (hX : X.length = k) (hY : Y.length = k) (hA : A.length = a) (hm : m = a + k + B.length) : swapR (A ++ X ++ B ++ Y ++ C) a m k = A ++ Y ++ B ++ X ++ C := by
  subst hA hX
  subst hm
  unfold swapR
  have t1 : (A ++ X ++ B ++ Y ++ C).take A.length = A := by rw [List.append_assoc, List.append_assoc, List.append_assoc, List.take_left]
  have d1 : (A ++ X ++ B ++ Y ++ C).drop A.length = X ++ (B ++ Y ++ C) := by rw [List.append_assoc, List.append_assoc, List.append_assoc, List.drop_left]; simp
  have d2 : (A ++ X ++ B ++ Y ++ C).drop (A.length + X.length) = B ++ (Y ++ C) := by rw [← List.drop_drop, d1, List.drop_left]; simp
  have d3 : (A ++ X ++ B ++ Y ++ C).drop (A.length + X.length + B.length) = Y ++ C := by rw [← List.drop_drop, d2, List.drop_left]
  have d4 : (A ++ X ++ B ++ Y ++ C).drop (A.length + X.length + B.length + X.length) = C := by rw [← List.drop_drop, d3, ← hY, List.drop_left]
  rw [t1, d1, d2, d3, d4, ← hY, List.take_left, show A.length + Y.length + B.length - (A.length + Y.length) = B.length by omega, List.take_left, hY, List.take_left]
end Go.Proofs.Ytgeoommlmddgpaa.LtA
namespace Go.Proofs.Ytgeoommlmddgpaa.LtA
open Go Go.Proofs Go.Proofs.Ytgeoommlmddgpaa.AI Go.RowKit

section
variable (us us' : List ViewV) (n c a m b i j : Nat) (g : Nat → Value)
end
/-- Two parts that follow one another change places. -/
def rotR (us : List ViewV) (a m b : Nat) : List ViewV := us.take a ++ (us.drop m).take (b - m) ++ (us.drop a).take (m - a) ++ us.drop b
theorem cut4_of {A X Y C : List ViewV} {a m b : Nat} (hA : A.length = a) (hm : m = a + X.length) (hb : b = m + Y.length) : (A ++ X ++ Y ++ C).take a = A ∧ ((A ++ X ++ Y ++ C).drop a).take (m - a) = X ∧ ((A ++ X ++ Y ++ C).drop m).take (b - m) = Y ∧ (A ++ X ++ Y ++ C).drop b = C := by
  subst hA
  subst hm
  subst hb
  have d1 : (A ++ X ++ Y ++ C).drop A.length = X ++ (Y ++ C) := by rw [List.append_assoc, List.append_assoc, List.drop_left]
  have d2 : (A ++ X ++ Y ++ C).drop (A.length + X.length) = Y ++ C := by rw [← List.drop_drop, d1, List.drop_left]
  refine ⟨by rw [List.append_assoc, List.append_assoc, List.take_left], ?_, ?_, ?_⟩
  · rw [d1, show A.length + X.length - A.length = X.length by omega, List.take_left]
  · rw [d2, show A.length + X.length + Y.length - (A.length + X.length) = Y.length by omega, List.take_left]
  · rw [← List.drop_drop, d2, List.drop_left]
end Go.Proofs.Ytgeoommlmddgpaa.LtA
namespace Go.Proofs.Ytgeoommlmddgpaa.LtA
open Go Go.Proofs Go.Proofs.Ytgeoommlmddgpaa.AI Go.RowKit Go.Proofs.Ytgeoommlmddgpaa.Sort

/-- Is a view's height less than another one's? -/
def ltV (u v : ViewV) : Bool := less u.n u.t u.o u.r u.d u.i v.n v.t v.o v.r v.d v.i
/-! ### insertionSort -/
section
variable (us us1 us2 : List ViewV) (n c a b i j : Nat) (x y : ViewV) (g : Nat → Value)
end
theorem cut3_of {A X C : List ViewV} {a b : Nat} (hA : A.length = a) (hb : b = a + X.length) : (A ++ X ++ C).take a = A ∧ ((A ++ X ++ C).drop a).take (b - a) = X ∧ (A ++ X ++ C).drop b = C := by
  subst hA
  subst hb
  have d1 : (A ++ X ++ C).drop A.length = X ++ C := by rw [List.append_assoc, List.drop_left]
  refine ⟨by rw [List.append_assoc, List.take_left], ?_, ?_⟩
  · rw [d1, show A.length + X.length - A.length = X.length by omega, List.take_left]
  · rw [← List.drop_drop, d1, List.drop_left]
end Go.Proofs.Ytgeoommlmddgpaa.LtA
namespace Go.Proofs.Ytgeoommlmddgpaa.LtA
open Go Go.Proofs Go.Proofs.Ytgeoommlmddgpaa.AI Go.RowKit Go.Proofs.Ytgeoommlmddgpaa.Sort

def cT : Code → Code
  | .cond _ a _ => a
  | c => c
section
variable (call : CallF) (us us1 us2 us' : List ViewV) (n c a m b i j h k s r p e mid q : Nat) (x y u w : ViewV) (d : Bool) (g : Nat → Value)
/-! One at the left. -/
end
section
variable (us us1 us2 us' : List ViewV) (n c a m b i j h k s r p e mid q : Nat) (x y u w : ViewV) (d : Bool) (g : Nat → Value)
/-! One at the right. -/
/-! The middle. -/
end
section
variable (call : CallF) (us us' : List ViewV) (n c a m b s e mid : Nat) (g : Nat → Value)
end
end Go.Proofs.Ytgeoommlmddgpaa.LtA
namespace Go.Proofs.Ytgeoommlmddgpaa.LtA
open Go Go.Proofs Go.Proofs.Ytgeoommlmddgpaa.AI Go.RowKit Go.Proofs.Ytgeoommlmddgpaa.Sort

/-! ### The order -/
/-- Is a view told of? -/
def Kn (x : ViewV) : Prop := known x.n x.t x.o x.r x.d x.i = true
section
variable {A X Y C us : List ViewV} {a m b : Nat}
end
/-! ### One at the left -/
/-! ### One at the right -/
end Go.Proofs.Ytgeoommlmddgpaa.LtA
namespace Go.Proofs.Ytgeoommlmddgpaa.LtA
open Go Go.Proofs Go.Proofs.Ytgeoommlmddgpaa.AI Go.RowKit Go.Proofs.Ytgeoommlmddgpaa.Sort

/-! ### Told -/
end Go.Proofs.Ytgeoommlmddgpaa.LtA
namespace Go.Proofs.Ytgeoommlmddgpaa.LtA
open Go Go.Proofs Go.Proofs.Ytgeoommlmddgpaa.AI Go.RowKit Go.Proofs.Ytgeoommlmddgpaa.Sort

/-! ### Parts of one length, each sorted -/
def bs : Nat → Nat → List ViewV → List ViewV
  | _, 0, us => us
  | s, k + 1, us => match us with
    | [] => []
    | _ :: _ => ssort ltV (us.take s) ++ bs s k (us.drop s)
/-! ### stable -/
section
variable (us us' : List ViewV) (n c a b s : Nat) (g : Nat → Value)
end
/-! ### SortStableFunc -/
end Go.Proofs.Ytgeoommlmddgpaa.LtA
