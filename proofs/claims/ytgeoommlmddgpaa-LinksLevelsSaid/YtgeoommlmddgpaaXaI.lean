/- Rows of links.view: what hangs on the type. -/
import Derived.Test.YtgeoommlmddgpaaXaH
set_option linter.unusedVariables false
set_option linter.unusedSimpArgs false
set_option maxRecDepth 100000
namespace Go.Proofs.Ytgeoommlmddgpaa.LtL
open Go Go.Proofs Go.Proofs.Ytgeoommlmddgpaa.AI Go.RowKit Go.Proofs.Ytgeoommlmddgpaa.Sort Go.Proofs.Ytgeoommlmddgpaa.LtA

def rowB (us : List ViewV) : Blk := .cells 81 (vrow us) false
def vB (x : ViewV) : Blk := .cells 81 (vc x) false
theorem row_block (vs : List ViewV) : inertB (.cells 81 (vrow vs) false) = true := vrow_inert vs
theorem size81 : tsize Try.prog 81 = some 7 := by kernel_rfl
theorem agg81 : tagg Try.prog 81 = some true := by kernel_rfl
theorem underlying80 : Try.prog.underlying 80 = some (.slice 81) := by kernel_rfl
theorem vidx_ok {b n i c : Nat} (h : i < n) : fstV ((aIndexAddr Try.prog 80 (rowS b n c) (iN i)).map fun v => (v, none)) = some (.pointer (some ⟨b, i * 7, none⟩)) := by
  have h1 : (0 : Int) ≤ Int.ofNat i ∧ Int.ofNat i < (n : Int) := ⟨Int.natCast_nonneg i, by simpa using h⟩
  simp only [aIndexAddr, rowS, iN, underlying80, size81]
  rw [if_pos h1]
  simp [fstV]
theorem vload_ok {hp : Hp} {b : Nat} {vs : List ViewV} {i : Nat} {p : ViewV} (ho : RowAt hp b vs) (h : vs[i]? = some p) : aLoad Try.prog hp.get 81 (.pointer (some ⟨b, i * 7, none⟩)) = some (.agg ⟨vc p⟩) := by
  obtain ⟨ty, ro, rest, hg⟩ := ho
  simp only [aLoad, hg, agg81, size81]
  have := flat_getR (f := vc) (k := 7) (ps := vs) (fun _ _ => rfl) h
  unfold vrow
  rw [getR_app this]
  rfl
end Go.Proofs.Ytgeoommlmddgpaa.LtL
namespace Go.Proofs.Ytgeoommlmddgpaa.LtL
open Go Go.Proofs Go.Proofs.Ytgeoommlmddgpaa.AI Go.RowKit Go.Proofs.Ytgeoommlmddgpaa.Sort Go.Proofs.Ytgeoommlmddgpaa.LtA

def Fc : Value := .func (.func 78) #[] #[]
def IsRow (us : List ViewV) (s : Value) (hp : Hp) : Prop := ∃ b c, s = rowS b us.length c ∧ hp.get b = some (rowB us)
theorem IsRow.uniq {us vs : List ViewV} {s : Value} {hp : Hp} (h1 : IsRow us s hp) (h2 : IsRow vs s hp) : us = vs := by
  obtain ⟨b, c, rfl, hb⟩ := h1
  obtain ⟨b', c', e, hb'⟩ := h2
  simp only [rowS, Value.slice.injEq, Option.some.injEq, Addr.mk.injEq, and_true] at e
  obtain ⟨rfl, -, -⟩ := e
  rw [hb] at hb'
  simp only [rowB, Option.some.injEq, Blk.cells.injEq, true_and, and_true] at hb'
  exact vrow_inj hb'
open Classical in
/-- Told at whatever row, which it may write. -/
noncomputable def atW (k : List ViewV → HeapFn) : HeapFn := fun args hp => match args with
  | s :: _ => if h : ∃ us, IsRow us s hp ∧ us.length < 1000000 then k h.choose args hp else none
  | _ => none
theorem atW_of {k : List ViewV → HeapFn} {us : List ViewV} {s : Value} {r : List Value} {hp : Hp} (h : IsRow us s hp) (hn : us.length < 1000000) : atW k (s :: r) hp = k us (s :: r) hp := by
  unfold atW
  have hx : ∃ us, IsRow us s hp ∧ us.length < 1000000 := ⟨us, h, hn⟩
  simp only
  rw [dif_pos hx]
  rw [hx.choose_spec.1.uniq h]
section
variable (us us1 us2 : List ViewV) (n c a m k i : Nat) (x y : ViewV) (f : Value) (g : Nat → Value)
end
open Classical in
noncomputable def g114 (us : List ViewV) : HeapFn := fun args hp => match args with
  | [.slice (some ⟨b, 0, none⟩) n c, .int .i64 (.ofNat a), .int .i64 (.ofNat m), .int .i64 (.ofNat k), f] =>
    if f = Fc ∧ IsRow us (.slice (some ⟨b, 0, none⟩) n c) hp ∧ a + k ≤ m ∧ m + k ≤ us.length then some (vU, hp.put b (rowB (swapR us a m k))) else none
  | _ => none
noncomputable def G114 : HeapFn := atW g114
open Classical in
theorem G114_of {A X B Y C us : List ViewV} {b n c a m k : Nat} {hp : Hp} (hus : us = A ++ X ++ B ++ Y ++ C) (hX : X.length = k) (hY : Y.length = k) (hA : A.length = a) (hm : m = a + k + B.length) (hn : n = us.length) (hl : n < 1000000) (hb : hp.get b = some (rowB us)) :
    G114 [rowS b n c, iN a, iN m, iN k, Fc] hp = some (vU, hp.put b (rowB (A ++ Y ++ B ++ X ++ C))) := by
  subst hn
  have hr : IsRow us (rowS b us.length c) hp := ⟨b, c, rfl, hb⟩
  unfold G114
  rw [atW_of hr hl]
  show (if Fc = Fc ∧ IsRow us (rowS b us.length c) hp ∧ a + k ≤ m ∧ m + k ≤ us.length then some (vU, hp.put b (rowB (swapR us a m k))) else none) = _
  rw [if_pos ⟨rfl, hr, by omega, by rw [hus]; simp; omega⟩, hus, swapR_of hX hY hA hm]
end Go.Proofs.Ytgeoommlmddgpaa.LtL
namespace Go.Proofs.Ytgeoommlmddgpaa.LtL
open Go Go.Proofs Go.Proofs.Ytgeoommlmddgpaa.AI Go.RowKit Go.Proofs.Ytgeoommlmddgpaa.Sort Go.Proofs.Ytgeoommlmddgpaa.LtA

section
variable (us us' : List ViewV) (n c a m b i j : Nat) (g : Nat → Value)
end
open Classical in
noncomputable def g111 (us : List ViewV) : HeapFn := fun args hp => match args with
  | [.slice (some ⟨k, 0, none⟩) n c, .int .i64 (.ofNat a), .int .i64 (.ofNat m), .int .i64 (.ofNat b), f] =>
    if f = Fc ∧ IsRow us (.slice (some ⟨k, 0, none⟩) n c) hp ∧ a < m ∧ m < b ∧ b ≤ us.length then some (vU, hp.put k (rowB (rotR us a m b))) else none
  | _ => none
noncomputable def G111 : HeapFn := atW g111
open Classical in
theorem G111_of {A X Y C us : List ViewV} {k n c a m b : Nat} {hp : Hp} (hus : us = A ++ X ++ Y ++ C) (hA : A.length = a) (hm : m = a + X.length) (hb' : b = m + Y.length) (hX : 0 < X.length) (hY : 0 < Y.length) (hn : n = us.length) (hl : n < 1000000) (hb : hp.get k = some (rowB us)) :
    G111 [rowS k n c, iN a, iN m, iN b, Fc] hp = some (vU, hp.put k (rowB (A ++ Y ++ X ++ C))) := by
  subst hn
  have hr : IsRow us (rowS k us.length c) hp := ⟨k, c, rfl, hb⟩
  unfold G111
  rw [atW_of hr hl]
  show (if Fc = Fc ∧ IsRow us (rowS k us.length c) hp ∧ a < m ∧ m < b ∧ b ≤ us.length then some (vU, hp.put k (rowB (rotR us a m b))) else none) = _
  rw [if_pos ⟨rfl, hr, by omega, by omega, by rw [hus]; simp; omega⟩]
  obtain ⟨e1, e2, e3, e4⟩ := cut4_of (C := C) hA hm hb'
  unfold rotR
  rw [hus, e1, e2, e3, e4]
end Go.Proofs.Ytgeoommlmddgpaa.LtL
namespace Go.Proofs.Ytgeoommlmddgpaa.LtL
open Go Go.Proofs Go.Proofs.Ytgeoommlmddgpaa.AI Go.RowKit Go.Proofs.Ytgeoommlmddgpaa.Sort Go.Proofs.Ytgeoommlmddgpaa.LtA

section
variable (us us1 us2 : List ViewV) (n c a b i j : Nat) (x y : ViewV) (g : Nat → Value)
end
open Classical in
noncomputable def g101 (us : List ViewV) : HeapFn := fun args hp => match args with
  | [.slice (some ⟨k, 0, none⟩) n c, .int .i64 (.ofNat a), .int .i64 (.ofNat b), f] =>
    if f = Fc ∧ IsRow us (.slice (some ⟨k, 0, none⟩) n c) hp ∧ a ≤ b ∧ b ≤ us.length then some (vU, hp.put k (rowB (us.take a ++ ssort ltV ((us.drop a).take (b - a)) ++ us.drop b))) else none
  | _ => none
noncomputable def G101 : HeapFn := atW g101
open Classical in
theorem G101_of {A X C us : List ViewV} {k n c a b : Nat} {hp : Hp} (hus : us = A ++ X ++ C) (hA : A.length = a) (hb' : b = a + X.length) (hn : n = us.length) (hl : n < 1000000) (hb : hp.get k = some (rowB us)) :
    G101 [rowS k n c, iN a, iN b, Fc] hp = some (vU, hp.put k (rowB (A ++ ssort ltV X ++ C))) := by
  subst hn
  have hr : IsRow us (rowS k us.length c) hp := ⟨k, c, rfl, hb⟩
  unfold G101
  rw [atW_of hr hl]
  show (if Fc = Fc ∧ IsRow us (rowS k us.length c) hp ∧ a ≤ b ∧ b ≤ us.length then some (vU, hp.put k (rowB (us.take a ++ ssort ltV ((us.drop a).take (b - a)) ++ us.drop b))) else none) = _
  rw [if_pos ⟨rfl, hr, by omega, by rw [hus]; simp; omega⟩]
  obtain ⟨e1, e2, e3⟩ := cut3_of (C := C) hA hb'
  rw [hus, e1, e2, e3]
end Go.Proofs.Ytgeoommlmddgpaa.LtL
namespace Go.Proofs.Ytgeoommlmddgpaa.LtL
open Go Go.Proofs Go.Proofs.Ytgeoommlmddgpaa.AI Go.RowKit Go.Proofs.Ytgeoommlmddgpaa.Sort Go.Proofs.Ytgeoommlmddgpaa.LtA

section
variable (call : CallF) (us us1 us2 us' : List ViewV) (n c a m b i j h k s r p e mid q : Nat) (x y u w : ViewV) (d : Bool) (g : Nat → Value)
end
section
variable (us us1 us2 us' : List ViewV) (n c a m b i j h k s r p e mid q : Nat) (x y u w : ViewV) (d : Bool) (g : Nat → Value)
end
section
variable (call : CallF) (us us' : List ViewV) (n c a m b s e mid : Nat) (g : Nat → Value)
end
end Go.Proofs.Ytgeoommlmddgpaa.LtL
namespace Go.Proofs.Ytgeoommlmddgpaa.LtL
open Go Go.Proofs Go.Proofs.Ytgeoommlmddgpaa.AI Go.RowKit Go.Proofs.Ytgeoommlmddgpaa.Sort Go.Proofs.Ytgeoommlmddgpaa.LtA

section
variable {A X Y C us : List ViewV} {a m b : Nat}
end
end Go.Proofs.Ytgeoommlmddgpaa.LtL
namespace Go.Proofs.Ytgeoommlmddgpaa.LtL
open Go Go.Proofs Go.Proofs.Ytgeoommlmddgpaa.AI Go.RowKit Go.Proofs.Ytgeoommlmddgpaa.Sort Go.Proofs.Ytgeoommlmddgpaa.LtA

open Classical in
/-- Merged, where the two parts are no longer than w. -/
noncomputable def g102 (w : Nat) (us : List ViewV) : HeapFn := fun args hp => match args with
  | [.slice (some ⟨k, 0, none⟩) n c, .int .i64 (.ofNat a), .int .i64 (.ofNat m), .int .i64 (.ofNat b), f] =>
    if f = Fc ∧ IsRow us (.slice (some ⟨k, 0, none⟩) n c) hp ∧ a < m ∧ m < b ∧ b ≤ us.length ∧ b - a ≤ w ∧ (∀ z ∈ (us.drop a).take (m - a), Kn z) ∧ (∀ z ∈ (us.drop m).take (b - m), Kn z) ∧ Srt ltV ((us.drop a).take (m - a)) ∧ Srt ltV ((us.drop m).take (b - m)) then
      some (vU, hp.put k (rowB (us.take a ++ mrg ltV ((us.drop a).take (m - a)) ((us.drop m).take (b - m)) ++ us.drop b))) else none
  | _ => none
open Classical in
theorem g102_of {w : Nat} {A X Y C us : List ViewV} {k n c a m b : Nat} {hp : Hp} (hus : us = A ++ X ++ Y ++ C) (hA : A.length = a) (hm : m = a + X.length) (hb' : b = m + Y.length) (hX : 0 < X.length) (hY : 0 < Y.length) (hn : n = us.length) (hl : n < 1000000) (hw : b - a ≤ w)
    (kX : ∀ z ∈ X, Kn z) (kY : ∀ z ∈ Y, Kn z) (sX : Srt ltV X) (sY : Srt ltV Y) (hb : hp.get k = some (rowB us)) :
    atW (g102 w) [rowS k n c, iN a, iN m, iN b, Fc] hp = some (vU, hp.put k (rowB (A ++ mrg ltV X Y ++ C))) := by
  subst hn
  have hr : IsRow us (rowS k us.length c) hp := ⟨k, c, rfl, hb⟩
  rw [atW_of hr hl]
  obtain ⟨e1, e2, e3, e4⟩ := cut4_of (C := C) hA hm hb'
  show (if Fc = Fc ∧ IsRow us (rowS k us.length c) hp ∧ a < m ∧ m < b ∧ b ≤ us.length ∧ b - a ≤ w ∧ (∀ z ∈ (us.drop a).take (m - a), Kn z) ∧ (∀ z ∈ (us.drop m).take (b - m), Kn z) ∧ Srt ltV ((us.drop a).take (m - a)) ∧ Srt ltV ((us.drop m).take (b - m)) then
      some (vU, hp.put k (rowB (us.take a ++ mrg ltV ((us.drop a).take (m - a)) ((us.drop m).take (b - m)) ++ us.drop b))) else none) = _
  rw [hus] at hr ⊢
  rw [e1, e2, e3, e4, if_pos ⟨rfl, hr, by omega, by omega, by simp; omega, hw, kX, kY, sX, sY⟩]
end Go.Proofs.Ytgeoommlmddgpaa.LtL
namespace Go.Proofs.Ytgeoommlmddgpaa.LtL
open Go Go.Proofs Go.Proofs.Ytgeoommlmddgpaa.AI Go.RowKit Go.Proofs.Ytgeoommlmddgpaa.Sort Go.Proofs.Ytgeoommlmddgpaa.LtA

section
variable (us us' : List ViewV) (n c a b s : Nat) (g : Nat → Value)
end
open Classical in
noncomputable def g88 (us : List ViewV) : HeapFn := fun args hp => match args with
  | [.slice (some ⟨k, 0, none⟩) n c, .int .i64 (.ofNat n'), f] => if f = Fc ∧ IsRow us (.slice (some ⟨k, 0, none⟩) n c) hp ∧ n' = n ∧ (∀ z ∈ us, Kn z) then some (vU, hp.put k (rowB (ssort ltV us))) else none
  | _ => none
noncomputable def G88 : HeapFn := atW g88
open Classical in
theorem G88_of {us : List ViewV} {k n c : Nat} {hp : Hp} (hn : n = us.length) (hl : n < 1000000) (hK : ∀ z ∈ us, Kn z) (hb : hp.get k = some (rowB us)) : G88 [rowS k n c, iN n, Fc] hp = some (vU, hp.put k (rowB (ssort ltV us))) := by
  subst hn
  have hr : IsRow us (rowS k us.length c) hp := ⟨k, c, rfl, hb⟩
  unfold G88
  rw [atW_of hr hl]
  show (if Fc = Fc ∧ IsRow us (rowS k us.length c) hp ∧ us.length = us.length ∧ (∀ z ∈ us, Kn z) then some (vU, hp.put k (rowB (ssort ltV us))) else none) = _
  rw [if_pos ⟨rfl, hr, rfl, hK⟩]

open Classical in
noncomputable def g76 (us : List ViewV) : HeapFn := fun args hp => match args with
  | [.slice (some ⟨k, 0, none⟩) n c, f] => if f = Fc ∧ IsRow us (.slice (some ⟨k, 0, none⟩) n c) hp ∧ (∀ z ∈ us, Kn z) then some (vU, hp.put k (rowB (ssort ltV us))) else none
  | _ => none
noncomputable def G76 : HeapFn := atW g76
open Classical in
theorem G76_of {us : List ViewV} {k n c : Nat} {hp : Hp} (hn : n = us.length) (hl : n < 1000000) (hK : ∀ z ∈ us, Kn z) (hb : hp.get k = some (rowB us)) : G76 [rowS k n c, Fc] hp = some (vU, hp.put k (rowB (ssort ltV us))) := by
  subst hn
  have hr : IsRow us (rowS k us.length c) hp := ⟨k, c, rfl, hb⟩
  unfold G76
  rw [atW_of hr hl]
  show (if Fc = Fc ∧ IsRow us (rowS k us.length c) hp ∧ (∀ z ∈ us, Kn z) then some (vU, hp.put k (rowB (ssort ltV us))) else none) = _
  rw [if_pos ⟨rfl, hr, hK⟩]
end Go.Proofs.Ytgeoommlmddgpaa.LtL
