/- slices.BinarySearchFunc and views.place, at views that rise: told. -/
import Derived.Test.YtiogdklmhpllfaaVfD
set_option linter.unusedVariables false
set_option linter.unusedSimpArgs false
set_option maxRecDepth 100000
namespace Go.Proofs.Ytiogdklmhpllfaa.LtA
open Go Go.Proofs Go.Proofs.Ytiogdklmhpllfaa.AI Go.RowKit

def Fv : Value := .func (.func 81) #[] #[]
section
variable (o : Blk) (n c : Nat) (id : Int)
def uN (n : Nat) : Value := .int .u64 (Int.ofNat n)
end
end Go.Proofs.Ytiogdklmhpllfaa.LtA
namespace Go.Proofs.Ytiogdklmhpllfaa.LtA
open Go Go.Proofs Go.Proofs.Ytiogdklmhpllfaa.AI Go.RowKit

/-- They rise. -/
def Rises (vs : List ViewV) : Prop := ∀ (i j : Nat) (u v : ViewV), i < j → vs[i]? = some u → vs[j]? = some v → u.id < v.id
def pos (vs : List ViewV) (id : Int) : Nat := (vs.takeWhile fun x => decide (x.id < id)).length
def fnd (vs : List ViewV) (id : Int) : Bool := match vs[pos vs id]? with
  | some x => x.id == id
  | none => false
theorem cmp3_lt (a b : Int) : decide (cmp3 a b < 0) = decide (a < b) := by
  unfold cmp3
  cases h1 : decide (a < b) with
  | true => rfl
  | false => cases h2 : decide (a > b) <;> rfl
theorem half_ok {i j : Nat} : (some (Value.int .u64 (Int.fdiv (Int.ofNat (i + j)) (2 ^ (min (Int.toNat 1) 64))))) = some (uN ((i + j) / 2)) := by
  have e : Int.fdiv (Int.ofNat (i + j)) (2 ^ (min (Int.toNat 1) 64)) = Int.ofNat ((i + j) / 2) := by
    show Int.fdiv (Int.ofNat (i + j)) 2 = _
    rw [Int.fdiv_eq_ediv_of_nonneg _ (by decide)]
    simp only [Int.ofNat_eq_natCast]
    omega
  rw [e]; rfl
theorem u64_ok {n : Nat} (h : n < 3000000) : (some (Value.int .u64 (wrapF .u64 (Int.ofNat n)))) = some (uN n) := by
  have : wrapF .u64 (Int.ofNat n) = Int.ofNat n := by
    show IntKind.wrap .u64 (Int.ofNat n) = _
    simp only [IntKind.wrap, IntKind.bits, IntKind.signed, Int.ofNat_eq_natCast]
    simp
    omega
  rw [this]; rfl
theorem i64_ok {n : Nat} (h : n < 3000000) : (some (Value.int .i64 (wrapF .i64 (Int.ofNat n)))) = some (iN n) := by
  rw [wrap64 (by have := Int.natCast_nonneg n; simp only [Int.ofNat_eq_natCast]; omega) (by simp only [Int.ofNat_eq_natCast]; omega)]
  rfl
theorem add_ok {i j : Nat} (h : i + j < 3000000) : (some (Value.int .i64 (wrapF .i64 (Int.ofNat i + Int.ofNat j)))) = some (iN (i + j)) := by
  have e : Int.ofNat i + Int.ofNat j = Int.ofNat (i + j) := rfl
  rw [e, i64_ok h]
/-! ### Told -/
theorem TR.uniq {us vs : List ViewV} {s : Value} {hp : Hp} (h1 : TR us s hp) (h2 : TR vs s hp) : us = vs := by
  obtain ⟨b, c, o, rfl, hb, _, hr⟩ := h1
  obtain ⟨b', c', o', e, hb', _, hr'⟩ := h2
  unfold rowS at e
  simp only [Value.slice.injEq, Option.some.injEq, Addr.mk.injEq, and_true] at e
  obtain ⟨rfl, hl, -⟩ := e
  rw [hb] at hb'; cases hb'
  have inj : ∀ {us vs : List ViewV}, vrow us = vrow vs → us = vs := by
    intro us
    induction us with
    | nil => intro vs h; cases vs with
      | nil => rfl
      | cons v vs => simp [vrow, vc] at h
    | cons u us ih => intro vs h; cases vs with
      | nil => simp [vrow, vc] at h
      | cons v vs =>
        simp only [vrow, vc, List.flatMap_cons, List.cons_append, List.nil_append, List.cons.injEq, Value.int.injEq, Value.bool.injEq, true_and] at h
        obtain ⟨a1, a2, a3, a4, a5, a6, a7, h⟩ := h
        have := ih h
        subst this
        cases u; cases v
        simp_all
  rcases hr with h | ⟨ty, ro, h⟩
  · subst h
    exact (List.eq_nil_of_length_eq_zero hl.symm).symm
  · rcases hr' with h' | ⟨ty', ro', h'⟩
    · subst h'
      exact List.eq_nil_of_length_eq_zero hl
    · rw [h] at h'
      injection h' with _ h2 _
      exact inj h2
/-- A row of views in a caller's heap: nil, or not. -/
def TN (vs : List ViewV) (s : Value) (hp : Hp) : Prop := s = nilS ∧ vs = [] ∨ TR vs s hp
theorem TN.uniq {us vs : List ViewV} {s : Value} {hp : Hp} (h1 : TN us s hp) (h2 : TN vs s hp) : us = vs := by
  rcases h1 with ⟨rfl, rfl⟩ | h1
  · rcases h2 with ⟨-, rfl⟩ | h2
    · rfl
    · exact h2.not_nil.elim
  · rcases h2 with ⟨rfl, rfl⟩ | h2
    · exact h1.not_nil.elim
    · exact h1.uniq h2
open Classical in
/-- Told at whatever row. -/
noncomputable def atRow (P : List ViewV → Prop) (k : List ViewV → HeapFn) : HeapFn := fun args hp => match args with
  | s :: _ => if h : ∃ vs, TN vs s hp ∧ vs.length < 1000000 ∧ P vs then k h.choose args hp else none
  | _ => none
theorem atRow_goal {f : FuncId} {P : List ViewV → Prop} {k : List ViewV → HeapFn} (h : ∀ vs, vs.length < 1000000 → P vs → CallGoal Try.prog f (k vs)) : CallGoal Try.prog f (atRow P k) := by
  intro args hp v hp' he hk
  unfold atRow at he
  split at he
  case h_2 => cases he
  split at he
  · rename_i hx
    exact h _ hx.choose_spec.2.1 hx.choose_spec.2.2 _ _ _ _ he hk
  · cases he
theorem atRow_of {P : List ViewV → Prop} {k : List ViewV → HeapFn} {vs : List ViewV} {s : Value} {r : List Value} {hp : Hp} (h : TN vs s hp) (hn : vs.length < 1000000) (hp' : P vs) : atRow P k (s :: r) hp = k vs (s :: r) hp := by
  unfold atRow
  have hx : ∃ vs, TN vs s hp ∧ vs.length < 1000000 ∧ P vs := ⟨vs, h, hn, hp'⟩
  simp only
  rw [dif_pos hx]
  rw [hx.choose_spec.1.uniq h]
open Classical in
noncomputable def g80 (vs : List ViewV) : HeapFn := fun args hp => match args with
  | [s, .int .i64 id, f] => if f = Fv ∧ TR vs s hp then some (.tuple #[iN (pos vs id), .bool (fnd vs id)], heapOf ([] ++ [.dead]) hp) else none
  | _ => none
noncomputable def E62 (vs : List ViewV) : Ext := extG (extH Try.prog []) [(80, g80 vs)]
noncomputable def c62 (vs : List ViewV) : CallF := aCall Try.prog (E62 vs) 5
open Classical in
theorem call80 {vs : List ViewV} {s : Value} {hp : Hp} {id : Int} (h : TR vs s hp) : c62 vs 80 [s, .int .i64 id, Fv] hp = some (.tuple #[iN (pos vs id), .bool (fnd vs id)], heapOf [.dead] hp) := by
  show aCall Try.prog (E62 vs) 5 80 _ _ = _
  rw [aCall]
  have hE : E62 vs 80 = some fun _ args h => g80 vs args h := rfl
  rw [hE]
  show (if Fv = Fv ∧ TR vs s hp then _ else _) = _
  rw [if_pos ⟨rfl, h⟩]
  rfl
open Classical in
noncomputable def g62 (vs : List ViewV) : HeapFn := fun args hp => match args with
  | [s, .int .i64 id] => if TR vs s hp then some (.tuple #[iN (pos vs id), .bool (fnd vs id)], heapOf ([] ++ [.dead]) hp) else none
  | _ => none
end Go.Proofs.Ytiogdklmhpllfaa.LtA
namespace Go.Proofs.Ytiogdklmhpllfaa.LtA
open Go Go.Proofs Go.Proofs.Ytiogdklmhpllfaa.AI Go.RowKit

noncomputable def E27 (vs : List ViewV) : Ext := extG (extH Try.prog [(55, g55)]) [(18, g18 vs), (61, g61 vs), (62, g62 vs), (63, gIns)]
noncomputable def c27 (vs : List ViewV) : CallF := aCall Try.prog (E27 vs) 5
def hcL (x : ViewV) : List Value := [.bool x.n, .int .i64 x.t, .int .i64 x.o, .int .i64 x.r, .int .i64 x.d, .int .i64 x.i]
def zeroV (id : Int) : ViewV := ⟨id, false, 0, 0, 0, 0, 0⟩
section
variable (vs ws us : List ViewV) (o : Blk) (n c p : Nat) (y : ViewV)
end
end Go.Proofs.Ytiogdklmhpllfaa.LtA
namespace Go.Proofs.Ytiogdklmhpllfaa.LtA
open Go Go.Proofs Go.Proofs.Ytiogdklmhpllfaa.AI Go.RowKit

/-- A view is set. -/
def setV (vs : List ViewV) (y : ViewV) : List ViewV := bif fnd vs y.id then vs.set (pos vs y.id) y else vs.take (pos vs y.id) ++ y :: vs.drop (pos vs y.id)
theorem rises_of (vs : List ViewV) (h : rightB vs = true) : Rises vs := by
  have step : ∀ (i : Nat) (u v : ViewV), vs[i]? = some u → vs[i + 1]? = some v → u.id < v.id := by
    intro i u v hu hv
    have hi : i + 1 < vs.length := (List.getElem?_eq_some_iff.1 hv).1
    have := List.all_eq_true.1 h (i + 1) (List.mem_range.2 hi)
    unfold rightAt at this
    rw [hv] at this
    simp only [hu, Bool.and_eq_true, decide_eq_true_eq] at this
    exact this.2
  intro i j
  induction j with
  | zero => intro u v hij; omega
  | succ j ih =>
    intro u v hij hu hv
    by_cases e : i = j
    · subst e; exact step i u v hu hv
    · have hj : j < vs.length := by have := (List.getElem?_eq_some_iff.1 hv).1; omega
      have h1 := ih u vs[j] (by omega) hu (List.getElem?_eq_getElem hj)
      have h2 := step j vs[j] v (List.getElem?_eq_getElem hj) hv
      omega
theorem vrow_append (us vs : List ViewV) : vrow (us ++ vs) = vrow us ++ vrow vs := by unfold vrow; rw [List.flatMap_append]
section
variable {vs : List ViewV} {s : Value} {hp : Hp}
open Classical in
theorem c27_62 {id : Int} (h : TR vs s hp) : c27 vs 62 [s, .int .i64 id] hp = some (.tuple #[iN (pos vs id), .bool (fnd vs id)], heapOf [.dead] hp) := by
  show aCall Try.prog (E27 vs) 5 62 _ _ = _
  rw [aCall]
  have hE : E27 vs 62 = some fun _ args h => g62 vs args h := rfl
  rw [hE]
  show (if TR vs s hp then _ else _) = _
  rw [if_pos h]
  rfl
end
/-- What Set's own frame ends with. -/
def EndsS (vs : List ViewV) (y : ViewV) (e : Exit) (st : St) : Prop :=
  e = .ret ∧ ((rightB vs && oneV y) = true ∧ (∃ g, st = stOf 42 g [(6, rowS 0 (setV vs y).length (bif fnd vs y.id then 22 else 23)), (7, iN 0)] [rowB (setV vs y)]) ∨ (rightB vs && oneV y) = false ∧ ∃ g, st = stOf 42 g [(6, nilS), (7, iN 1)] [])
end Go.Proofs.Ytiogdklmhpllfaa.LtA
namespace Go.Proofs.Ytiogdklmhpllfaa.LtA
open Go Go.Proofs Go.Proofs.Ytiogdklmhpllfaa.AI Go.RowKit

def setC (s : Value) (vs : List ViewV) (id : Int) : Nat := match s with
  | .slice none _ _ => 22
  | _ => bif fnd vs id then 22 else 23
open Classical in
noncomputable def g27 (vs : List ViewV) : HeapFn := fun args hp => match args with
  | [s, .int .i64 id, .agg cs] => match cs.toList with
    | [.bool n, .int .i64 t, .int .i64 o, .int .i64 r, .int .i64 d, .int .i64 i] =>
      if TN vs s hp then (match rightB vs && oneV ⟨id, n, t, o, r, d, i⟩ with
        | true => some (.tuple #[rowS hp.sz (setV vs ⟨id, n, t, o, r, d, i⟩).length (setC s vs id), iN 0], heapOf ([rowB (setV vs ⟨id, n, t, o, r, d, i⟩)] ++ [.dead]) hp)
        | false => some (.tuple #[nilS, iN 1], heapOf ([] ++ [.dead]) hp))
      else none
    | _ => none
  | _ => none
open Classical in
theorem g27_of {vs : List ViewV} {s : Value} {hp : Hp} (y : ViewV) (h : TN vs s hp) : g27 vs [s, .int .i64 y.id, hcA y] hp = match rightB vs && oneV y with
    | true => some (.tuple #[rowS hp.sz (setV vs y).length (setC s vs y.id), iN 0], heapOf [rowB (setV vs y), .dead] hp)
    | false => some (.tuple #[nilS, iN 1], heapOf [.dead] hp) := by
  show (if TN vs s hp then _ else _) = _
  rw [if_pos h]
  rfl
/-! ### Plain facts -/
abbrev Up (vs : List ViewV) : Prop := vs.Pairwise fun u v => u.id < v.id
theorem rises_up {vs : List ViewV} : Rises vs ↔ Up vs := by
  constructor
  · intro h
    refine List.pairwise_iff_getElem.2 fun i j hi hj hij => h i j _ _ hij (List.getElem?_eq_getElem hi) (List.getElem?_eq_getElem hj)
  · intro h i j u v hij hu hv
    obtain ⟨hi, rfl⟩ := List.getElem?_eq_some_iff.1 hu
    obtain ⟨hj, rfl⟩ := List.getElem?_eq_some_iff.1 hv
    exact List.pairwise_iff_getElem.1 h i j hi hj hij
theorem right_iff {vs : List ViewV} : rightB vs = true ↔ (∀ x ∈ vs, oneV x = true) ∧ Up vs := by
  constructor
  · intro h
    refine ⟨fun x hx => ?_, rises_up.1 (rises_of vs h)⟩
    obtain ⟨i, hi⟩ := List.mem_iff_getElem?.1 hx
    exact right_one h hi
  · rintro ⟨h1, h2⟩
    have hr := rises_up.2 h2
    refine rightB_of fun j hj => ?_
    have hx : vs[j]? = some vs[j] := List.getElem?_eq_getElem hj
    unfold rightAt
    rw [hx]
    simp only [h1 _ (List.getElem_mem hj), Bool.true_and]
    cases j with
    | zero => rfl
    | succ j =>
      have hu : vs[j]? = some vs[j] := List.getElem?_eq_getElem (by omega)
      simp only [hu]
      exact decide_eq_true (hr j (j + 1) _ _ (by omega) hu hx)
end Go.Proofs.Ytiogdklmhpllfaa.LtA
