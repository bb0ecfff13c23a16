/- slices.BinarySearchFunc and views.place, at views that rise: told. -/
import Derived.Test.YtgeoommlmddgpaaXaC
set_option linter.unusedVariables false
set_option linter.unusedSimpArgs false
set_option maxRecDepth 100000
namespace Go.Proofs.Ytgeoommlmddgpaa.LtA
open Go Go.Proofs Go.Proofs.Ytgeoommlmddgpaa.AI Go.RowKit

section
variable (o : Blk) (n c : Nat) (id : Int)
end
end Go.Proofs.Ytgeoommlmddgpaa.LtA
namespace Go.Proofs.Ytgeoommlmddgpaa.LtA
open Go Go.Proofs Go.Proofs.Ytgeoommlmddgpaa.AI Go.RowKit

/-- They rise. -/
def Rises (vs : List ViewV) : Prop := ∀ (i j : Nat) (u v : ViewV), i < j → vs[i]? = some u → vs[j]? = some v → u.id < v.id
/-! ### Told -/
theorem TR.uniq {us vs : List ViewV} {s : Value} {hp : Hp} (h1 : TR us s hp) (h2 : TR vs s hp) : us = vs := by
  obtain ⟨b, c, o, rfl, hb, _, hr⟩ := h1
  obtain ⟨b', c', o', e, hb', _, hr'⟩ := h2
  unfold rowS at e
  simp only [Value.slice.injEq, Option.some.injEq, Addr.mk.injEq, and_true] at e
  obtain ⟨rfl, hl, -⟩ := e
  rw [hb] at hb'; cases hb'
  have inj : ∀ {us vs : List ViewV}, vrow us = vrow vs → us = vs := by
    intro us
    induction us with
    | nil => intro vs h; cases vs with
      | nil => rfl
      | cons v vs => simp [vrow, vc] at h
    | cons u us ih => intro vs h; cases vs with
      | nil => simp [vrow, vc] at h
      | cons v vs =>
        simp only [vrow, vc, List.flatMap_cons, List.cons_append, List.nil_append, List.cons.injEq, Value.int.injEq, Value.bool.injEq, true_and] at h
        obtain ⟨a1, a2, a3, a4, a5, a6, a7, h⟩ := h
        have := ih h
        subst this
        cases u; cases v
        simp_all
  rcases hr with h | ⟨ty, ro, h⟩
  · subst h
    exact (List.eq_nil_of_length_eq_zero hl.symm).symm
  · rcases hr' with h' | ⟨ty', ro', h'⟩
    · subst h'
      exact List.eq_nil_of_length_eq_zero hl
    · rw [h] at h'
      injection h' with _ h2 _
      exact inj h2
/-- A row of views in a caller's heap: nil, or not. -/
def TN (vs : List ViewV) (s : Value) (hp : Hp) : Prop := s = nilS ∧ vs = [] ∨ TR vs s hp
theorem TN.uniq {us vs : List ViewV} {s : Value} {hp : Hp} (h1 : TN us s hp) (h2 : TN vs s hp) : us = vs := by
  rcases h1 with ⟨rfl, rfl⟩ | h1
  · rcases h2 with ⟨-, rfl⟩ | h2
    · rfl
    · exact h2.not_nil.elim
  · rcases h2 with ⟨rfl, rfl⟩ | h2
    · exact h1.not_nil.elim
    · exact h1.uniq h2
open Classical in
/-- Told at whatever row. -/
noncomputable def atRow (P : List ViewV → Prop) (k : List ViewV → HeapFn) : HeapFn := fun args hp => match args with
  | s :: _ => if h : ∃ vs, TN vs s hp ∧ vs.length < 1000000 ∧ P vs then k h.choose args hp else none
  | _ => none
theorem atRow_goal {f : FuncId} {P : List ViewV → Prop} {k : List ViewV → HeapFn} (h : ∀ vs, vs.length < 1000000 → P vs → CallGoal Try.prog f (k vs)) : CallGoal Try.prog f (atRow P k) := by
  intro args hp v hp' he hk
  unfold atRow at he
  split at he
  case h_2 => cases he
  split at he
  · rename_i hx
    exact h _ hx.choose_spec.2.1 hx.choose_spec.2.2 _ _ _ _ he hk
  · cases he
theorem atRow_of {P : List ViewV → Prop} {k : List ViewV → HeapFn} {vs : List ViewV} {s : Value} {r : List Value} {hp : Hp} (h : TN vs s hp) (hn : vs.length < 1000000) (hp' : P vs) : atRow P k (s :: r) hp = k vs (s :: r) hp := by
  unfold atRow
  have hx : ∃ vs, TN vs s hp ∧ vs.length < 1000000 ∧ P vs := ⟨vs, h, hn, hp'⟩
  simp only
  rw [dif_pos hx]
  rw [hx.choose_spec.1.uniq h]
end Go.Proofs.Ytgeoommlmddgpaa.LtA
namespace Go.Proofs.Ytgeoommlmddgpaa.LtA
open Go Go.Proofs Go.Proofs.Ytgeoommlmddgpaa.AI Go.RowKit

def hcL (x : ViewV) : List Value := [.bool x.n, .int .i64 x.t, .int .i64 x.o, .int .i64 x.r, .int .i64 x.d, .int .i64 x.i]
def zeroV (id : Int) : ViewV := ⟨id, false, 0, 0, 0, 0, 0⟩
section
variable (vs ws us : List ViewV) (o : Blk) (n c p : Nat) (y : ViewV)
end
end Go.Proofs.Ytgeoommlmddgpaa.LtA
namespace Go.Proofs.Ytgeoommlmddgpaa.LtA
open Go Go.Proofs Go.Proofs.Ytgeoommlmddgpaa.AI Go.RowKit

theorem rises_of (vs : List ViewV) (h : rightB vs = true) : Rises vs := by
  have step : ∀ (i : Nat) (u v : ViewV), vs[i]? = some u → vs[i + 1]? = some v → u.id < v.id := by
    intro i u v hu hv
    have hi : i + 1 < vs.length := (List.getElem?_eq_some_iff.1 hv).1
    have := List.all_eq_true.1 h (i + 1) (List.mem_range.2 hi)
    unfold rightAt at this
    rw [hv] at this
    simp only [hu, Bool.and_eq_true, decide_eq_true_eq] at this
    exact this.2
  intro i j
  induction j with
  | zero => intro u v hij; omega
  | succ j ih =>
    intro u v hij hu hv
    by_cases e : i = j
    · subst e; exact step i u v hu hv
    · have hj : j < vs.length := by have := (List.getElem?_eq_some_iff.1 hv).1; omega
      have h1 := ih u vs[j] (by omega) hu (List.getElem?_eq_getElem hj)
      have h2 := step j vs[j] v (List.getElem?_eq_getElem hj) hv
      omega
section
variable {vs : List ViewV} {s : Value} {hp : Hp}
end
end Go.Proofs.Ytgeoommlmddgpaa.LtA
namespace Go.Proofs.Ytgeoommlmddgpaa.LtA
open Go Go.Proofs Go.Proofs.Ytgeoommlmddgpaa.AI Go.RowKit

/-! ### Plain facts -/
abbrev Up (vs : List ViewV) : Prop := vs.Pairwise fun u v => u.id < v.id
theorem rises_up {vs : List ViewV} : Rises vs ↔ Up vs := by
  constructor
  · intro h
    refine List.pairwise_iff_getElem.2 fun i j hi hj hij => h i j _ _ hij (List.getElem?_eq_getElem hi) (List.getElem?_eq_getElem hj)
  · intro h i j u v hij hu hv
    obtain ⟨hi, rfl⟩ := List.getElem?_eq_some_iff.1 hu
    obtain ⟨hj, rfl⟩ := List.getElem?_eq_some_iff.1 hv
    exact List.pairwise_iff_getElem.1 h i j hi hj hij
theorem right_iff {vs : List ViewV} : rightB vs = true ↔ (∀ x ∈ vs, oneV x = true) ∧ Up vs := by
  constructor
  · intro h
    refine ⟨fun x hx => ?_, rises_up.1 (rises_of vs h)⟩
    obtain ⟨i, hi⟩ := List.mem_iff_getElem?.1 hx
    exact right_one h hi
  · rintro ⟨h1, h2⟩
    have hr := rises_up.2 h2
    refine rightB_of fun j hj => ?_
    have hx : vs[j]? = some vs[j] := List.getElem?_eq_getElem hj
    unfold rightAt
    rw [hx]
    simp only [h1 _ (List.getElem_mem hj), Bool.true_and]
    cases j with
    | zero => rfl
    | succ j =>
      have hu : vs[j]? = some vs[j] := List.getElem?_eq_getElem (by omega)
      simp only [hu]
      exact decide_eq_true (hr j (j + 1) _ _ (by omega) hu hx)
end Go.Proofs.Ytgeoommlmddgpaa.LtA
namespace Go.Proofs.Ytgeoommlmddgpaa.LtA
open Go Go.Proofs Go.Proofs.Ytgeoommlmddgpaa.AI Go.RowKit

section
variable (zs xs ys : List ViewV) (o : Blk) (s : Value) (n : Nat) (y z : ViewV) (O1 O2 : List Blk) (e f : Nat) (u1 u2 : Value)
abbrev B5 : St := ⟨tmsOf [s, .int .i64 y.id, .int .i64 z.id, hcA y, hcA z] 0 .leaf, heapOf [o, .dead] hp0, []⟩
def rw2 (us : List ViewV) : List Blk := [rowB us, .dead]
end
/-! ### What is owed -/
theorem TR.ext {vs : List ViewV} {s : Value} {hp : Hp} (h : TR vs s hp) (hk : hp.ok) (O : List Blk) : TR vs s (heapOf O hp) := by
  obtain ⟨b, c, o, rfl, hb, hi, hr⟩ := h
  exact ⟨b, c, o, rfl, by rw [heapOf_get, if_pos (lt_of_get hk hb), hb], hi, hr⟩
theorem TN.ext {vs : List ViewV} {s : Value} {hp : Hp} (h : TN vs s hp) (hk : hp.ok) (O : List Blk) : TN vs s (heapOf O hp) := by
  rcases h with h | h
  · exact .inl h
  · exact .inr (h.ext hk O)
theorem TN.new {vs : List ViewV} {hp : Hp} {b n c : Nat} (hn : n = vs.length) (hb : hp.get b = some (rowB vs)) : TN vs (rowS b n c) hp := by
  subst hn
  exact .inr ⟨b, c, rowB vs, rfl, hb, row_block vs, .inr ⟨45, false, rfl⟩⟩
end Go.Proofs.Ytgeoommlmddgpaa.LtA
namespace Go.Proofs.Ytgeoommlmddgpaa.LtA
open Go Go.Proofs Go.Proofs.Ytgeoommlmddgpaa.AI Go.RowKit Go.ChangeShapes

/-- From a frame of its own to a law's word. -/
theorem law_end {f : FuncId} {fn : Func} {c : Code} {N : Nat} (hf : Try.prog.funcs[f]? = some fn) (hb : fn.body = some c) (hN : fn.ntmps = N) (W : World) {args : Array Value} {args0 : List Value} {hp : Hp} {m : BM} (hl : args0.length ≤ N) (hk : hp.ok) (sim : Sim m hp.get W) (ro : ∀ b, rw? hp.get b = false)
    (ra : VRelL m hp.get args0 args.toList) (h : ∀ W, FRwp Try.prog N W c ⟨tmsOf args0 0 .leaf, hp, []⟩ (fun e st => (e = .normal ∨ e = .ret) ∧ st.df = [] ∧ retVal Try.prog fn st = some (.bool true))) :
    Calls Try.prog f args W fun e W' => e = .returned (.bool true) ∧ Below W.heap.size W W' := by
  have h' := h (Base.shut W)
  rw [← hN] at h'
  refine (fn_of (R := fun v _ => v = .bool true) hf hb (by rw [hN]; exact hl) hk sim ro ra (FRwp.mono h' fun e st q => ⟨q.1, q.2.1, _, q.2.2, rfl⟩)).mono fun e w' hh => ?_
  obtain ⟨v', v, st', m', rfl, rfl, rv, _, _, hb, _⟩ := hh
  exact ⟨by rw [rv.of_bool], hb.below⟩
end Go.Proofs.Ytgeoommlmddgpaa.LtA
namespace Go.Proofs.Ytgeoommlmddgpaa.LtA
open Go Go.Proofs Go.Proofs.Ytgeoommlmddgpaa.AI Go.RowKit

/-! ### Rows that begin a block -/
def TP (vs : List ViewV) (s : Value) (hp : Hp) : Prop := ∃ b c o, s = rowS b vs.length c ∧ hp.get b = some o ∧ inertB o = true ∧ Holds vs o
theorem vrow_inj {us : List ViewV} : ∀ {vs : List ViewV}, vrow us = vrow vs → us = vs := by
  induction us with
  | nil => intro vs h; cases vs with
    | nil => rfl
    | cons v vs => simp [vrow, vc] at h
  | cons u us ih => intro vs h; cases vs with
    | nil => simp [vrow, vc] at h
    | cons v vs =>
      simp only [vrow, vc, List.flatMap_cons, List.cons_append, List.nil_append, List.cons.injEq, Value.int.injEq, Value.bool.injEq, true_and] at h
      obtain ⟨a1, a2, a3, a4, a5, a6, a7, h⟩ := h
      have := ih h
      subst this
      cases u; cases v
      simp_all
theorem TP.not_nil {vs : List ViewV} {hp : Hp} (h : TP vs nilS hp) : False := by
  obtain ⟨b, c, o, h, _⟩ := h
  simp [rowS, nilS] at h
theorem TP.uniq {us vs : List ViewV} {s : Value} {hp : Hp} (h1 : TP us s hp) (h2 : TP vs s hp) : us = vs := by
  obtain ⟨b, c, o, rfl, hb, _, hr⟩ := h1
  obtain ⟨b', c', o', e, hb', _, hr'⟩ := h2
  unfold rowS at e
  simp only [Value.slice.injEq, Option.some.injEq, Addr.mk.injEq, and_true] at e
  obtain ⟨rfl, hl, -⟩ := e
  rw [hb] at hb'; cases hb'
  rcases hr with h | ⟨ty, ro, rest, h⟩
  · subst h
    exact (List.eq_nil_of_length_eq_zero hl.symm).symm
  · rcases hr' with h' | ⟨ty', ro', rest', h'⟩
    · subst h'
      exact List.eq_nil_of_length_eq_zero hl
    · rw [h] at h'
      injection h' with _ h2 _
      exact vrow_inj (List.append_inj h2 (by rw [vrow_len, vrow_len, hl])).1
def TQ (vs : List ViewV) (s : Value) (hp : Hp) : Prop := s = nilS ∧ vs = [] ∨ TP vs s hp
theorem TQ.uniq {us vs : List ViewV} {s : Value} {hp : Hp} (h1 : TQ us s hp) (h2 : TQ vs s hp) : us = vs := by
  rcases h1 with ⟨rfl, rfl⟩ | h1
  · rcases h2 with ⟨-, rfl⟩ | h2
    · rfl
    · exact h2.not_nil.elim
  · rcases h2 with ⟨rfl, rfl⟩ | h2
    · exact h1.not_nil.elim
    · exact h1.uniq h2
theorem TP.ext {vs : List ViewV} {s : Value} {hp : Hp} (h : TP vs s hp) (hk : hp.ok) (O : List Blk) : TP vs s (heapOf O hp) := by
  obtain ⟨b, c, o, rfl, hb, hi, hr⟩ := h
  exact ⟨b, c, o, rfl, by rw [heapOf_get, if_pos (lt_of_get hk hb), hb], hi, hr⟩
theorem TQ.ext {vs : List ViewV} {s : Value} {hp : Hp} (h : TQ vs s hp) (hk : hp.ok) (O : List Blk) : TQ vs s (heapOf O hp) := by
  rcases h with h | h
  · exact .inl h
  · exact .inr (h.ext hk O)
/-! ### Get -/
noncomputable def c0 : CallF := aCall Try.prog (extH Try.prog []) 5
def hB (x : ViewV) : Blk := .cells 24 (hcL x) false
section
variable (o : Blk) (n c : Nat) (id : Int)
end
theorem wrap_max {i : Nat} (h : i + 1 ≤ 9223372036854775807) : (some (Value.int .i64 (wrapF .i64 (Int.ofNat i + 1)))) = some (iN (i + 1)) := by
  have e : Int.ofNat i + 1 = Int.ofNat (i + 1) := rfl
  rw [e, wrap64 (by have := Int.natCast_nonneg (i + 1); simp only [Int.ofNat_eq_natCast]; omega) (by simp only [Int.ofNat_eq_natCast]; omega)]
  rfl
end Go.Proofs.Ytgeoommlmddgpaa.LtA
namespace Go.Proofs.Ytgeoommlmddgpaa.LtA
open Go Go.Proofs Go.Proofs.Ytgeoommlmddgpaa.AI Go.RowKit

/-! ### What is told of a block may be less -/
/-! ### Delete -/
section
variable (L L1 L2 : List Value) (n c i : Nat)
end
end Go.Proofs.Ytgeoommlmddgpaa.LtA
namespace Go.Proofs.Ytgeoommlmddgpaa.LtA
open Go Go.Proofs Go.Proofs.Ytgeoommlmddgpaa.AI Go.RowKit

section
variable (vs us : List ViewV) (o : Blk) (n n1 c p : Nat) (id : Int)
end
section
variable {vs : List ViewV} {s : Value} {hp : Hp}
end
end Go.Proofs.Ytgeoommlmddgpaa.LtA
namespace Go.Proofs.Ytgeoommlmddgpaa.LtA
open Go Go.Proofs Go.Proofs.Ytgeoommlmddgpaa.AI Go.RowKit

def hk0 (o : Blk) (y : ViewV) : Hp := heapOf [o, .dead, .cells 24 (hcL y) false] hp0
section
variable (xs ds : List ViewV) (o : Blk) (s : Value) (n : Nat) (y : ViewV) (oth : Int)
noncomputable def hk1 (xs : List ViewV) (o : Blk) (y : ViewV) : Hp := heapOf (rw2 xs) (hk0 o y)
noncomputable def hk2 (ds xs : List ViewV) (o : Blk) (y : ViewV) : Hp := heapOf (rw2 ds) (hk1 xs o y)
end
/-! ### Plain facts -/
/-! ### What is owed -/
section
variable {vs : List ViewV} {s : Value} {hp : Hp}
end
end Go.Proofs.Ytgeoommlmddgpaa.LtA
