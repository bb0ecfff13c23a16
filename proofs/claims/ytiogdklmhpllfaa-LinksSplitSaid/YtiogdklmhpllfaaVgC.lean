/- views.Get, told at whatever row (the beginning of a block, or nil). -/
import Derived.Test.YtiogdklmhpllfaaVgB
set_option linter.unusedVariables false
set_option linter.unusedSimpArgs false
set_option maxRecDepth 100000
namespace Go.Proofs.Ytiogdklmhpllfaa.LtA
open Go Go.Proofs Go.Proofs.Ytiogdklmhpllfaa.AI Go.RowKit

/-! ### Rows that begin a block -/
def TP (vs : List ViewV) (s : Value) (hp : Hp) : Prop := ∃ b c o, s = rowS b vs.length c ∧ hp.get b = some o ∧ inertB o = true ∧ Holds vs o
theorem vrow_inj {us : List ViewV} : ∀ {vs : List ViewV}, vrow us = vrow vs → us = vs := by
  induction us with
  | nil => intro vs h; cases vs with
    | nil => rfl
    | cons v vs => simp [vrow, vc] at h
  | cons u us ih => intro vs h; cases vs with
    | nil => simp [vrow, vc] at h
    | cons v vs =>
      simp only [vrow, vc, List.flatMap_cons, List.cons_append, List.nil_append, List.cons.injEq, Value.int.injEq, Value.bool.injEq, true_and] at h
      obtain ⟨a1, a2, a3, a4, a5, a6, a7, h⟩ := h
      have := ih h
      subst this
      cases u; cases v
      simp_all
theorem TP.not_nil {vs : List ViewV} {hp : Hp} (h : TP vs nilS hp) : False := by
  obtain ⟨b, c, o, h, _⟩ := h
  simp [rowS, nilS] at h
theorem TP.uniq {us vs : List ViewV} {s : Value} {hp : Hp} (h1 : TP us s hp) (h2 : TP vs s hp) : us = vs := by
  obtain ⟨b, c, o, rfl, hb, _, hr⟩ := h1
  obtain ⟨b', c', o', e, hb', _, hr'⟩ := h2
  unfold rowS at e
  simp only [Value.slice.injEq, Option.some.injEq, Addr.mk.injEq, and_true] at e
  obtain ⟨rfl, hl, -⟩ := e
  rw [hb] at hb'; cases hb'
  rcases hr with h | ⟨ty, ro, rest, h⟩
  · subst h
    exact (List.eq_nil_of_length_eq_zero hl.symm).symm
  · rcases hr' with h' | ⟨ty', ro', rest', h'⟩
    · subst h'
      exact List.eq_nil_of_length_eq_zero hl
    · rw [h] at h'
      injection h' with _ h2 _
      exact vrow_inj (List.append_inj h2 (by rw [vrow_len, vrow_len, hl])).1
def TQ (vs : List ViewV) (s : Value) (hp : Hp) : Prop := s = nilS ∧ vs = [] ∨ TP vs s hp
theorem TQ.uniq {us vs : List ViewV} {s : Value} {hp : Hp} (h1 : TQ us s hp) (h2 : TQ vs s hp) : us = vs := by
  rcases h1 with ⟨rfl, rfl⟩ | h1
  · rcases h2 with ⟨-, rfl⟩ | h2
    · rfl
    · exact h2.not_nil.elim
  · rcases h2 with ⟨rfl, rfl⟩ | h2
    · exact h1.not_nil.elim
    · exact h1.uniq h2
theorem TP.ext {vs : List ViewV} {s : Value} {hp : Hp} (h : TP vs s hp) (hk : hp.ok) (O : List Blk) : TP vs s (heapOf O hp) := by
  obtain ⟨b, c, o, rfl, hb, hi, hr⟩ := h
  exact ⟨b, c, o, rfl, by rw [heapOf_get, if_pos (lt_of_get hk hb), hb], hi, hr⟩
theorem TQ.ext {vs : List ViewV} {s : Value} {hp : Hp} (h : TQ vs s hp) (hk : hp.ok) (O : List Blk) : TQ vs s (heapOf O hp) := by
  rcases h with h | h
  · exact .inl h
  · exact .inr (h.ext hk O)
open Classical in
/-- Told at whatever row that begins a block. -/
noncomputable def atP (k : List ViewV → HeapFn) : HeapFn := fun args hp => match args with
  | s :: _ => if h : ∃ vs, TQ vs s hp ∧ vs.length < 1000000 then k h.choose args hp else none
  | _ => none
theorem atP_of {k : List ViewV → HeapFn} {vs : List ViewV} {s : Value} {r : List Value} {hp : Hp} (h : TQ vs s hp) (hn : vs.length < 1000000) : atP k (s :: r) hp = k vs (s :: r) hp := by
  unfold atP
  have hx : ∃ vs, TQ vs s hp ∧ vs.length < 1000000 := ⟨vs, h, hn⟩
  simp only
  rw [dif_pos hx]
  rw [hx.choose_spec.1.uniq h]

/-! ### Get -/
noncomputable def c0 : CallF := aCall Try.prog (extH Try.prog []) 5
theorem c0_ok : CallOk Try.prog c0 := aCall_sound (extH_ok .nil) follows 5
def hB (x : ViewV) : Blk := .cells 23 (hcL x) false
section
variable (o : Blk) (n c : Nat) (id : Int)
end
def isId (id : Int) (x : ViewV) : Bool := x.id == id
def findV (vs : List ViewV) (id : Int) : Option ViewV := vs.find? (isId id)
def getV (vs : List ViewV) (id : Int) : Value := .tuple #[hcA ((findV vs id).getD (zeroV 0)), .bool (findV vs id).isSome]
open Classical in
noncomputable def g33 (vs : List ViewV) : HeapFn := fun args hp => match args with
  | [s, .int .i64 id] => if TQ vs s hp then some (getV vs id, heapOf ([] ++ [.dead]) hp) else none
  | _ => none
noncomputable def G33 : HeapFn := atP g33
open Classical in
theorem G33_of {vs : List ViewV} {s : Value} {hp : Hp} {id : Int} (h : TQ vs s hp) (hn : vs.length < 1000000) : G33 [s, .int .i64 id] hp = some (getV vs id, heapOf [.dead] hp) := by
  unfold G33
  rw [atP_of h hn]
  show (if TQ vs s hp then _ else _) = _
  rw [if_pos h]; rfl
open Classical in
/-- Get at a row of whatever length. -/
noncomputable def G33M : HeapFn := fun args hp => match args with
  | s :: _ => if h : ∃ vs, TQ vs s hp ∧ vs.length ≤ 9223372036854775807 then g33 h.choose args hp else none
  | _ => none
open Classical in
theorem G33M_of {vs : List ViewV} {s : Value} {hp : Hp} {id : Int} (h : TQ vs s hp) (hn : vs.length ≤ 9223372036854775807) : G33M [s, .int .i64 id] hp = some (getV vs id, heapOf [.dead] hp) := by
  unfold G33M
  have hx : ∃ vs, TQ vs s hp ∧ vs.length ≤ 9223372036854775807 := ⟨vs, h, hn⟩
  simp only
  rw [dif_pos hx, hx.choose_spec.1.uniq h]
  show (if TQ vs s hp then _ else _) = _
  rw [if_pos h]; rfl
end Go.Proofs.Ytiogdklmhpllfaa.LtA
namespace Go.Proofs.Ytiogdklmhpllfaa.LtA
open Go Go.Proofs Go.Proofs.Ytiogdklmhpllfaa.AI Go.RowKit

/-! ### What is told of a block may be less -/
/-! ### Delete -/
section
variable (L L1 L2 : List Value) (n c i : Nat)
end
def gDel : HeapFn := fun args hp => match args with
  | [.slice (some ⟨b, 0, none⟩) n c, .int .i64 (.ofNat i), .int .i64 (.ofNat j)] => match hp.get b with
    | some (.cells ty L false) => match Nat.beq c 22 && Nat.beq ty 34 && Nat.beq L.length (n * 7) && Nat.beq j (i + 1) && Nat.blt i n && Nat.blt n 1000000 && L.all inert && L.all isOne with
      | true => some (slS hp.sz 0 (n - 1) 23, heapOf ([.cells 34 (L.take (i * 7) ++ L.drop ((i + 1) * 7)) false] ++ [.dead]) (killL [b] hp))
      | false => none
    | _ => none
  | _ => none
end Go.Proofs.Ytiogdklmhpllfaa.LtA
namespace Go.Proofs.Ytiogdklmhpllfaa.LtA
open Go Go.Proofs Go.Proofs.Ytiogdklmhpllfaa.AI Go.RowKit

noncomputable def E41 (vs : List ViewV) : Ext := extG (extH Try.prog []) [(18, g18 vs), (61, g61 vs), (62, g62 vs), (69, gDel)]
noncomputable def c41 (vs : List ViewV) : CallF := aCall Try.prog (E41 vs) 5
section
variable (vs us : List ViewV) (o : Blk) (n n1 c p : Nat) (id : Int)
end
def dropV (vs : List ViewV) (id : Int) : List ViewV := vs.eraseIdx (pos vs id)
section
variable {vs : List ViewV} {s : Value} {hp : Hp}
open Classical in
theorem c41_62 {id : Int} (h : TR vs s hp) : c41 vs 62 [s, .int .i64 id] hp = some (.tuple #[iN (pos vs id), .bool (fnd vs id)], heapOf [.dead] hp) := by
  show aCall Try.prog (E41 vs) 5 62 _ _ = _
  rw [aCall]
  have hE : E41 vs 62 = some fun _ args h => g62 vs args h := rfl
  rw [hE]
  show (if TR vs s hp then _ else _) = _
  rw [if_pos h]
  rfl
end
open Classical in
noncomputable def g41 (vs : List ViewV) : HeapFn := fun args hp => match args with
  | [s, .int .i64 id] => if TN vs s hp then (match rightB vs && fnd vs id with
      | true => some (.tuple #[rowS hp.sz (dropV vs id).length 23, iN 0], heapOf ([rowB (dropV vs id)] ++ [.dead]) hp)
      | false => some (.tuple #[nilS, iN (bif rightB vs then 7 else 1)], heapOf ([] ++ [.dead]) hp)) else none
  | _ => none
noncomputable def G41 : HeapFn := atRow (fun _ => True) g41
open Classical in
theorem G41_of {vs : List ViewV} {s : Value} {hp : Hp} {id : Int} (h : TN vs s hp) (hn : vs.length < 1000000) : G41 [s, .int .i64 id] hp = match rightB vs && fnd vs id with
      | true => some (.tuple #[rowS hp.sz (dropV vs id).length 23, iN 0], heapOf [rowB (dropV vs id), .dead] hp)
      | false => some (.tuple #[nilS, iN (bif rightB vs then 7 else 1)], heapOf [.dead] hp) := by
  unfold G41
  rw [atRow_of h hn trivial]
  show (if TN vs s hp then _ else _) = _
  rw [if_pos h]
  cases (rightB vs && fnd vs id) <;> rfl
end Go.Proofs.Ytiogdklmhpllfaa.LtA
namespace Go.Proofs.Ytiogdklmhpllfaa.LtA
open Go Go.Proofs Go.Proofs.Ytiogdklmhpllfaa.AI Go.RowKit

noncomputable def G18 : HeapFn := atRow (fun _ => True) g18
theorem hkG18 : CallGoal Try.prog 18 G18 := atRow_goal fun vs hn _ => hk18 vs hn
theorem G18_of {vs : List ViewV} {s : Value} {hp : Hp} (h : TN vs s hp) (hn : vs.length < 1000000) : G18 [s] hp = some (errI (rightB vs), heapOf [.dead] hp) := by
  unfold G18
  rw [atRow_of h hn trivial]
  exact g18_of h
def hk0 (o : Blk) (y : ViewV) : Hp := heapOf [o, .dead, .cells 23 (hcL y) false] hp0
section
variable (xs ds : List ViewV) (o : Blk) (s : Value) (n : Nat) (y : ViewV) (oth : Int)
noncomputable def hk1 (xs : List ViewV) (o : Blk) (y : ViewV) : Hp := heapOf (rw2 xs) (hk0 o y)
noncomputable def hk2 (ds xs : List ViewV) (o : Blk) (y : ViewV) : Hp := heapOf (rw2 ds) (hk1 xs o y)
/-- Behind a Get: its answer lies in a variable. -/
noncomputable def hkG (x : ViewV) (hp : Hp) : Hp := heapOf [.dead, hB x] hp
end
/-! ### Plain facts -/
/-! ### What is owed -/
section
variable {vs : List ViewV} {s : Value} {hp : Hp}
end
end Go.Proofs.Ytiogdklmhpllfaa.LtA
