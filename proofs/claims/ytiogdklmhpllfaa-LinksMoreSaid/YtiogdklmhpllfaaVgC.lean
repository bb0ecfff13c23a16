/- views.Get, told at whatever row (the beginning of a block, or nil). -/
import Derived.Test.YtiogdklmhpllfaaVgB
set_option linter.unusedVariables false
set_option linter.unusedSimpArgs false
set_option maxRecDepth 100000
namespace Go.Proofs.Ytiogdklmhpllfaa.LtA
open Go Go.Proofs Go.Proofs.Ytiogdklmhpllfaa.AI Go.RowKit

/-! ### Rows that begin a block -/
theorem ro_holds {o : Blk} {vs : List ViewV} (h : Holds vs o) : Holds vs (roBlk o) := by
  rcases h with h | ⟨ty, ro, rest, rfl⟩
  · exact .inl h
  · exact .inr ⟨ty, true, rest, rfl⟩
def TP (vs : List ViewV) (s : Value) (hp : Hp) : Prop := ∃ b c o, s = rowS b vs.length c ∧ hp.get b = some o ∧ inertB o = true ∧ Holds vs o
theorem TR.tp {vs : List ViewV} {s : Value} {hp : Hp} (h : TR vs s hp) : TP vs s hp := by
  obtain ⟨b, c, o, h1, h2, h3, h4⟩ := h
  exact ⟨b, c, o, h1, h2, h3, .of h4⟩
theorem vrow_inj {us : List ViewV} : ∀ {vs : List ViewV}, vrow us = vrow vs → us = vs := by
  induction us with
  | nil => intro vs h; cases vs with
    | nil => rfl
    | cons v vs => simp [vrow, vc] at h
  | cons u us ih => intro vs h; cases vs with
    | nil => simp [vrow, vc] at h
    | cons v vs =>
      simp only [vrow, vc, List.flatMap_cons, List.cons_append, List.nil_append, List.cons.injEq, Value.int.injEq, Value.bool.injEq, true_and] at h
      obtain ⟨a1, a2, a3, a4, a5, a6, a7, h⟩ := h
      have := ih h
      subst this
      cases u; cases v
      simp_all
theorem TP.not_nil {vs : List ViewV} {hp : Hp} (h : TP vs nilS hp) : False := by
  obtain ⟨b, c, o, h, _⟩ := h
  simp [rowS, nilS] at h
theorem TP.uniq {us vs : List ViewV} {s : Value} {hp : Hp} (h1 : TP us s hp) (h2 : TP vs s hp) : us = vs := by
  obtain ⟨b, c, o, rfl, hb, _, hr⟩ := h1
  obtain ⟨b', c', o', e, hb', _, hr'⟩ := h2
  unfold rowS at e
  simp only [Value.slice.injEq, Option.some.injEq, Addr.mk.injEq, and_true] at e
  obtain ⟨rfl, hl, -⟩ := e
  rw [hb] at hb'; cases hb'
  rcases hr with h | ⟨ty, ro, rest, h⟩
  · subst h
    exact (List.eq_nil_of_length_eq_zero hl.symm).symm
  · rcases hr' with h' | ⟨ty', ro', rest', h'⟩
    · subst h'
      exact List.eq_nil_of_length_eq_zero hl
    · rw [h] at h'
      injection h' with _ h2 _
      exact vrow_inj (List.append_inj h2 (by rw [vrow_len, vrow_len, hl])).1
def TQ (vs : List ViewV) (s : Value) (hp : Hp) : Prop := s = nilS ∧ vs = [] ∨ TP vs s hp
theorem TN.tq {vs : List ViewV} {s : Value} {hp : Hp} (h : TN vs s hp) : TQ vs s hp := by
  rcases h with h | h
  · exact .inl h
  · exact .inr h.tp
theorem TQ.uniq {us vs : List ViewV} {s : Value} {hp : Hp} (h1 : TQ us s hp) (h2 : TQ vs s hp) : us = vs := by
  rcases h1 with ⟨rfl, rfl⟩ | h1
  · rcases h2 with ⟨-, rfl⟩ | h2
    · rfl
    · exact h2.not_nil.elim
  · rcases h2 with ⟨rfl, rfl⟩ | h2
    · exact h1.not_nil.elim
    · exact h1.uniq h2
theorem TP.ext {vs : List ViewV} {s : Value} {hp : Hp} (h : TP vs s hp) (hk : hp.ok) (O : List Blk) : TP vs s (heapOf O hp) := by
  obtain ⟨b, c, o, rfl, hb, hi, hr⟩ := h
  exact ⟨b, c, o, rfl, by rw [heapOf_get, if_pos (lt_of_get hk hb), hb], hi, hr⟩
theorem TQ.ext {vs : List ViewV} {s : Value} {hp : Hp} (h : TQ vs s hp) (hk : hp.ok) (O : List Blk) : TQ vs s (heapOf O hp) := by
  rcases h with h | h
  · exact .inl h
  · exact .inr (h.ext hk O)
open Classical in
/-- Told at whatever row that begins a block. -/
noncomputable def atP (k : List ViewV → HeapFn) : HeapFn := fun args hp => match args with
  | s :: _ => if h : ∃ vs, TQ vs s hp ∧ vs.length < 1000000 then k h.choose args hp else none
  | _ => none
theorem atP_of {k : List ViewV → HeapFn} {vs : List ViewV} {s : Value} {r : List Value} {hp : Hp} (h : TQ vs s hp) (hn : vs.length < 1000000) : atP k (s :: r) hp = k vs (s :: r) hp := by
  unfold atP
  have hx : ∃ vs, TQ vs s hp ∧ vs.length < 1000000 := ⟨vs, h, hn⟩
  simp only
  rw [dif_pos hx]
  rw [hx.choose_spec.1.uniq h]

/-! ### Get -/
noncomputable def c0 : CallF := aCall Try.prog (extH Try.prog []) 5
theorem c0_ok : CallOk Try.prog c0 := aCall_sound (extH_ok .nil) follows 5
noncomputable def fb33 : Code := (Try.f33.body).getD .skip
noncomputable def c33a : Code := sL fb33
noncomputable def c33b : Code := sL (sL (sR fb33))
noncomputable def c33c : Code := unL (unB (sR (sL (sR fb33))))
noncomputable def c33d : Code := sR (sR fb33)
noncomputable abbrev code33 : Code := .seq c33a (.seq (.seq c33b (.block 0 (.loop c33c))) c33d)
theorem body33 : Try.f33.body = some code33 := by kernel_rfl
theorem ntmps33 : Try.f33.ntmps = 22 := by kernel_rfl
theorem s33a : codeSafe Try.prog 22 c33a = true := by kernel_rfl
theorem s33b : codeSafe Try.prog 22 c33b = true := by kernel_rfl
theorem s33c : codeSafe Try.prog 22 c33c = true := by kernel_rfl
theorem s33d : codeSafe Try.prog 22 c33d = true := by kernel_rfl
def hB (x : ViewV) : Blk := .cells 23 (hcL x) false
theorem q33 (x : ViewV) (b : Bool) (g : Nat → Value) : retVal Try.prog Try.f33 (stOf 22 g [(4, pb 0 0), (5, .bool b)] [hB x]) = some (.tuple #[hcA x, .bool b]) := by kernel_rfl
section
variable (o : Blk) (n c : Nat) (id : Int)
abbrev B33 : St := ⟨tmsOf [rowS 0 n c, .int .i64 id] 0 .leaf, heapOf [o, .dead] hp0, []⟩
abbrev A33 (g : Nat → Value) : St := stOf 22 g [(0, rowS 0 n c), (1, .int .i64 id), (4, pb 1 0)] [o, hB (zeroV 0)]
abbrev L33 (i : Nat) (g : Nat → Value) : St := stOf 22 g [(1, .int .i64 id), (4, pb 1 0), (8, rowS 0 n c), (9, iN n), (10, iN i)] [o, hB (zeroV 0)]
abbrev X33 (g : Nat → Value) : St := stOf 22 g [(4, pb 0 0)] [hB (zeroV 0)]
theorem r33a : (execE Try.prog c0 [] [] [] 10 c33a (B33 o n c id)).map (fun y => (look2 1 [0, 2] [0, 1, 4] (y.1, y.2.1), y.2.2)) = some ((.normal, [o, hB (zeroV 0)], [(0, rowS 0 n c), (1, .int .i64 id), (4, pb 1 0)], true), [], [], []) := by kernel_rfl
theorem r33b (g : Nat → Value) : (execE Try.prog c0 [] [] [] 10 c33b (A33 o n c id g)).map (fun y => (look2 1 [0, 1] [1, 4, 8, 9, 10] (y.1, y.2.1), y.2.2)) = some ((.normal, [o, hB (zeroV 0)], [(1, .int .i64 id), (4, pb 1 0), (8, rowS 0 n c), (9, iN n), (10, iN 0)], true), [], [], []) := by kernel_rfl
theorem r33x (i : Nat) (g : Nat → Value) : (execE Try.prog c0 [(11, .bool false)] [] [] 20 c33c (L33 o n c id i g)).map (fun y => (look2 0 [1] [4] (y.1, y.2.1), y.2.2)) =
    some ((.exit 0, [hB (zeroV 0)], [(4, pb 0 0)], true), [(some (.bool (decide (Int.ofNat i < Int.ofNat n))), .bool false)], [], []) := by kernel_rfl
noncomputable def owe33 (i : Nat) (x : ViewV) : List Obl :=
  [(some (.bool (decide (Int.ofNat i < Int.ofNat n))), .bool true), ixO 0 n c i, ldO (heapOf ([o, hB (zeroV 0)] ++ [.dead]) hp0).get 34 0 (i * 7) (.agg ⟨vc x⟩)]
def see33 (i : Nat) (x : ViewV) : List (Tmp × Value) := [(11, .bool true), (12, pb 0 (i * 7)), (13, .agg ⟨vc x⟩)]
theorem r33f (i : Nat) (x : ViewV) (g : Nat → Value) : (execE Try.prog c0 (see33 i x ++ [(17, .bool false), (20, iN (i + 1))]) [] [] 20 c33c (L33 o n c id i g)).map (fun y => (look2 1 [0, 1] [1, 4, 8, 9, 10] (y.1, y.2.1), y.2.2)) =
    some ((.normal, [o, hB (zeroV 0)], [(1, .int .i64 id), (4, pb 1 0), (8, rowS 0 n c), (9, iN n), (10, iN (i + 1))], true), owe33 o n c i x ++ [(some (.bool (x.id == id)), .bool false), nxt29 i], [], []) := by kernel_rfl
theorem r33g (i : Nat) (x : ViewV) (g : Nat → Value) : (execE Try.prog c0 (see33 i x ++ [(17, .bool true)]) [] [] 20 c33c (L33 o n c id i g)).map (fun y => (look2 0 [1] [4, 5] (y.1, y.2.1), y.2.2)) =
    some ((.ret, [hB x], [(4, pb 0 0), (5, .bool true)], true), owe33 o n c i x ++ [(some (.bool (x.id == id)), .bool true)], [], []) := by kernel_rfl
theorem r33d (g : Nat → Value) : (execE Try.prog c0 [] [] [] 20 c33d (X33 g)).map (fun y => (look2 0 [0] [4, 5] (y.1, y.2.1), y.2.2)) =
    some ((.ret, [hB (zeroV 0)], [(4, pb 0 0), (5, .bool false)], true), [], [], []) := by kernel_rfl
theorem r33n : (execQ Try.prog c0 [] 40 code33 ⟨tmsOf [nilS, .int .i64 id] 0 .leaf, heapOf [.dead] hp0, []⟩).map (fun y => (look2 0 [1] [4, 5] (y.1, y.2.1), y.2.2)) =
    some ((.ret, [hB (zeroV 0)], [(4, pb 0 0), (5, .bool false)], true), []) := by kernel_rfl
end
def isId (id : Int) (x : ViewV) : Bool := x.id == id
def findV (vs : List ViewV) (id : Int) : Option ViewV := vs.find? (isId id)
def getV (vs : List ViewV) (id : Int) : Value := .tuple #[hcA ((findV vs id).getD (zeroV 0)), .bool (findV vs id).isSome]
theorem find_at {α : Type} {p : α → Bool} : ∀ {vs : List α} {i : Nat} {x : α}, vs[i]? = some x → p x = true → (∀ j y, j < i → vs[j]? = some y → p y = false) → vs.find? p = some x
  | [], i, x, h, _, _ => by simp at h
  | v :: vs, 0, x, h, hp, _ => by
    simp at h; subst h
    rw [List.find?_cons_of_pos hp]
  | v :: vs, i + 1, x, h, hp, hb => by
    rw [List.find?_cons_of_neg (by rw [hb 0 v (by omega) rfl]; simp)]
    exact find_at (by simpa using h) hp fun j y hj hy => hb (j + 1) y (by omega) (by simpa using hy)
theorem find_no {α : Type} {p : α → Bool} {vs : List α} (h : ∀ j y, j < vs.length → vs[j]? = some y → p y = false) : vs.find? p = none := by
  refine List.find?_eq_none.2 fun x hx => ?_
  obtain ⟨i, hi⟩ := List.mem_iff_getElem?.1 hx
  rw [h i x (List.getElem?_eq_some_iff.1 hi).1 hi]; simp
def EndsG (vs : List ViewV) (id : Int) (e : Exit) (st : St) : Prop := e = .ret ∧ ∃ g, st = stOf 22 g [(4, pb 0 0), (5, .bool (findV vs id).isSome)] [hB ((findV vs id).getD (zeroV 0))]
theorem wrap_max {i : Nat} (h : i + 1 ≤ 9223372036854775807) : (some (Value.int .i64 (wrapF .i64 (Int.ofNat i + 1)))) = some (iN (i + 1)) := by
  have e : Int.ofNat i + 1 = Int.ofNat (i + 1) := rfl
  rw [e, wrap64 (by have := Int.natCast_nonneg (i + 1); simp only [Int.ofNat_eq_natCast]; omega) (by simp only [Int.ofNat_eq_natCast]; omega)]
  rfl
theorem get_fr (o : Blk) (ho : inertB o = true) (vs : List ViewV) (hn : vs.length ≤ 9223372036854775807) (hrow : Holds vs o) (c : Nat) (id : Int) (W : Base) :
    FRwp Try.prog 22 W code33 (B33 o vs.length c id) (EndsG vs id) := by
  refine FRwp.seq (Q1 := fun x st => x = .normal ∧ ∃ g, st = A33 o vs.length c id g) (FRwp.pieceY c0_ok follows 1 _ _ _ _ (r33a o vs.length c id) Met.nil MetH.nil MetE.nil s33a rfl rfl (fix11 ho _) fun g => ⟨rfl, g, rfl⟩) ?_ (fun x st hne hq => absurd hq.1 hne)
  rintro st ⟨-, g, rfl⟩
  let Q2 : Exit → St → Prop := fun x st => (x = .normal ∧ findV vs id = none ∧ ∃ g, st = X33 g) ∨ (x = .ret ∧ EndsG vs id x st)
  refine FRwp.seq (Q1 := Q2) ?_ ?_ ?_
  · refine FRwp.seq (Q1 := fun x st => x = .normal ∧ ∃ g, st = L33 o vs.length c id 0 g) (FRwp.pieceY c0_ok follows 1 _ _ _ _ (r33b o vs.length c id g) Met.nil MetH.nil MetE.nil s33b rfl rfl (fix11 ho _) fun g => ⟨rfl, g, rfl⟩) ?_ (fun x st hne hq => absurd hq.1 hne)
    rintro st ⟨-, g, rfl⟩
    refine FRwp.block ?_
    refine FRwp.loop (fun k st => ∃ i g, i ≤ vs.length ∧ k = vs.length - i ∧ (∀ j y, j < i → vs[j]? = some y → isId id y = false) ∧ st = L33 o vs.length c id i g) ?_ (k := vs.length) ⟨0, g, Nat.zero_le _, rfl, fun j y hj => absurd hj (Nat.not_lt_zero _), rfl⟩
    rintro k st ⟨i, g, hi, hk, hno, rfl⟩
    cases h11 : decide (Int.ofNat i < Int.ofNat vs.length) with
    | false =>
      refine FRwp.pieceY c0_ok follows 0 _ _ _ _ (r33x o vs.length c id i g) (Met.cons (met_bool h11) Met.nil) MetH.nil MetE.nil s33c rfl rfl (noFix _) fun g' => .inr ⟨by simp, ?_⟩
      show (if (0 : Nat) = 0 then Q2 .normal _ else Q2 (.exit 0) _)
      rw [if_pos rfl]
      have hii : i = vs.length := by simp at h11; omega
      subst hii
      exact .inl ⟨rfl, find_no hno, g', rfl⟩
    | true =>
      have hlt : i < vs.length := by simpa using h11
      obtain ⟨x, hx⟩ : ∃ x, vs[i]? = some x := ⟨_, List.getElem?_eq_getElem hlt⟩
      have hmet : Met (owe33 o vs.length c i x) := Met.cons (met_bool h11) (Met.cons (vidx_ok hlt) (Met.cons (vload_ok (rowAt0' (row_of_mem hrow (List.mem_of_getElem? hx))) hx) Met.nil))
      cases h17 : isId id x with
      | false =>
        refine FRwp.pieceY c0_ok follows 1 _ _ _ _ (r33f o vs.length c id i x g) (met_app hmet (Met.cons (met_bool h17) (Met.cons (wrap_max (by omega)) Met.nil))) MetH.nil MetE.nil s33c rfl rfl (fix11 ho _) fun g' => .inl ⟨rfl, vs.length - (i + 1), by omega, i + 1, g', by omega, rfl, fun j y hj hy => ?_, rfl⟩
        rcases Nat.lt_succ_iff_lt_or_eq.1 hj with h' | h'
        · exact hno j y h' hy
        · subst h'; rw [hx] at hy; cases hy; exact h17
      | true =>
        refine FRwp.pieceY c0_ok follows 0 _ _ _ _ (r33g o vs.length c id i x g) (met_app hmet (Met.cons (met_bool h17) Met.nil)) MetH.nil MetE.nil s33c rfl rfl (noFix _) fun g' => .inr ⟨by simp, .inr ⟨rfl, rfl, g', ?_⟩⟩
        have hf : findV vs id = some x := find_at hx h17 hno
        rw [hf]; rfl
  · rintro st (⟨-, hf, g, rfl⟩ | ⟨h, -⟩)
    · refine FRwp.pieceY c0_ok follows 0 _ _ _ _ (r33d g) Met.nil MetH.nil MetE.nil s33d rfl rfl (noFix _) fun g' => ⟨rfl, g', ?_⟩
      rw [hf]; rfl
    · cases h
  · rintro x st hne (⟨h, -⟩ | ⟨-, h⟩)
    · exact absurd h hne
    · exact h
theorem s33 : codeSafe Try.prog 22 code33 = true := by kernel_rfl
theorem get_nil (id : Int) (W : Base) : FRwp Try.prog 22 W code33 ⟨tmsOf [nilS, .int .i64 id] 0 .leaf, heapOf [.dead] hp0, []⟩ (EndsG [] id) :=
  FRwp.piece c0_ok follows 0 _ _ _ _ (r33n id) Met.nil s33 rfl rfl rfl (noFix _) fun g => ⟨rfl, g, rfl⟩
open Classical in
noncomputable def g33 (vs : List ViewV) : HeapFn := fun args hp => match args with
  | [s, .int .i64 id] => if TQ vs s hp then some (getV vs id, heapOf ([] ++ [.dead]) hp) else none
  | _ => none
theorem hk33 (vs : List ViewV) (hn : vs.length ≤ 9223372036854775807) : CallGoal Try.prog 33 (g33 vs) := scan_goal follows Try.func33 body33 (by kernel_rfl) fun args hp v hp' h hk => by
  unfold g33 at h
  rw [ntmps33]
  split at h
  case h_2 => cases h
  rename_i s id
  split at h
  case isFalse => cases h
  rename_i hT
  cases h
  have fin : ∀ {e : Exit} {st : St}, EndsG vs id e st → (e = .normal ∨ e = .ret) ∧ st.df = [] ∧ ∃ v0, retVal Try.prog Try.f33 st = some v0 ∧ ok3 v0 = true ∧
      (∀ b ∈ ([] : List Nat), ∃ o, st.hp.get b = some o ∧ okBlk o = true ∧ rwB o = true) ∧ getV vs id = sh3 [] hp.sz v0 ∧ [] = outOf [] hp.sz st.hp := by
    rintro e st ⟨rfl, g, rfl⟩
    exact ⟨.inr rfl, rfl, _, q33 _ _ g, rfl, (fun b hb => by cases hb), by simp [sh3, sh2, sh1, getV, hcA], rfl⟩
  rcases hT with ⟨rfl, rfl⟩ | ⟨b, c, o, rfl, hb, hi, hr⟩
  · refine ⟨[], [], [], rfl, rfl, rfl, rfl, (fun b hb => by cases hb), rfl, (by simp), fun W => ?_⟩
    have e1 : [nilS, .int .i64 id].map (sh3 [] 0) = [nilS, .int .i64 id] := by simp [sh3, sh2, sh1, nilS]
    rw [e1]
    exact FRwp.mono (get_nil id W) fun e st q => fin q
  · refine ⟨[b], [], [], rfl, rfl, rfl, rfl, fun b' hb' => ?_, rfl, (by simp), fun W => ?_⟩
    · have : b' = b := by simpa using hb'
      subst this
      exact ⟨o, hb, inert_start hi⟩
    · have e1 : [rowS b vs.length c, .int .i64 id].map (sh3 [b] 0) = [rowS 0 vs.length c, .int .i64 id] := by simp [sh3, sh2, sh1, rho, idxOf, rowS]
      rw [e1, start1 hb hi]
      exact FRwp.mono (get_fr (roBlk o) (ro_inert hi) vs hn (ro_holds hr) c id W) fun e st q => fin q
noncomputable def G33 : HeapFn := atP g33
open Classical in
theorem G33_of {vs : List ViewV} {s : Value} {hp : Hp} {id : Int} (h : TQ vs s hp) (hn : vs.length < 1000000) : G33 [s, .int .i64 id] hp = some (getV vs id, heapOf [.dead] hp) := by
  unfold G33
  rw [atP_of h hn]
  show (if TQ vs s hp then _ else _) = _
  rw [if_pos h]; rfl
open Classical in
/-- Get at a row of whatever length. -/
noncomputable def G33M : HeapFn := fun args hp => match args with
  | s :: _ => if h : ∃ vs, TQ vs s hp ∧ vs.length ≤ 9223372036854775807 then g33 h.choose args hp else none
  | _ => none
theorem hkG33M : CallGoal Try.prog 33 G33M := by
  intro args hp v hp' he hk
  unfold G33M at he
  split at he
  case h_2 => cases he
  split at he
  · rename_i hx
    exact hk33 _ hx.choose_spec.2 _ _ _ _ he hk
  · cases he
open Classical in
theorem G33M_of {vs : List ViewV} {s : Value} {hp : Hp} {id : Int} (h : TQ vs s hp) (hn : vs.length ≤ 9223372036854775807) : G33M [s, .int .i64 id] hp = some (getV vs id, heapOf [.dead] hp) := by
  unfold G33M
  have hx : ∃ vs, TQ vs s hp ∧ vs.length ≤ 9223372036854775807 := ⟨vs, h, hn⟩
  simp only
  rw [dif_pos hx, hx.choose_spec.1.uniq h]
  show (if TQ vs s hp then _ else _) = _
  rw [if_pos h]; rfl
end Go.Proofs.Ytiogdklmhpllfaa.LtA
namespace Go.Proofs.Ytiogdklmhpllfaa.LtA
open Go Go.Proofs Go.Proofs.Ytiogdklmhpllfaa.AI Go.RowKit

/-! ### What is told of a block may be less -/
/-! ### Delete -/
section
variable (L L1 L2 : List Value) (n c i : Nat)
def hD (L : List Value) : Hp := heapOf [.cells 34 L false, .dead] hp0
end
def gDel : HeapFn := fun args hp => match args with
  | [.slice (some ⟨b, 0, none⟩) n c, .int .i64 (.ofNat i), .int .i64 (.ofNat j)] => match hp.get b with
    | some (.cells ty L false) => match Nat.beq c 22 && Nat.beq ty 34 && Nat.beq L.length (n * 7) && Nat.beq j (i + 1) && Nat.blt i n && Nat.blt n 1000000 && L.all inert && L.all isOne with
      | true => some (slS hp.sz 0 (n - 1) 23, heapOf ([.cells 34 (L.take (i * 7) ++ L.drop ((i + 1) * 7)) false] ++ [.dead]) (killL [b] hp))
      | false => none
    | _ => none
  | _ => none
end Go.Proofs.Ytiogdklmhpllfaa.LtA
namespace Go.Proofs.Ytiogdklmhpllfaa.LtA
open Go Go.Proofs Go.Proofs.Ytiogdklmhpllfaa.AI Go.RowKit

noncomputable def E41 (vs : List ViewV) : Ext := extG (extH Try.prog []) [(18, g18 vs), (61, g61 vs), (62, g62 vs), (69, gDel)]
noncomputable def c41 (vs : List ViewV) : CallF := aCall Try.prog (E41 vs) 5
def hd0 (o : Blk) : Hp := heapOf [o, .dead] hp0
def hd1 (o : Blk) : Hp := heapOf [.dead] (hd0 o)
section
variable (vs us : List ViewV) (o : Blk) (n n1 c p : Nat) (id : Int)
end
def dropV (vs : List ViewV) (id : Int) : List ViewV := vs.eraseIdx (pos vs id)
section
variable {vs : List ViewV} {s : Value} {hp : Hp}
open Classical in
theorem c41_62 {id : Int} (h : TR vs s hp) : c41 vs 62 [s, .int .i64 id] hp = some (.tuple #[iN (pos vs id), .bool (fnd vs id)], heapOf [.dead] hp) := by
  show aCall Try.prog (E41 vs) 5 62 _ _ = _
  rw [aCall]
  have hE : E41 vs 62 = some fun _ args h => g62 vs args h := rfl
  rw [hE]
  show (if TR vs s hp then _ else _) = _
  rw [if_pos h]
  rfl
end
open Classical in
noncomputable def g41 (vs : List ViewV) : HeapFn := fun args hp => match args with
  | [s, .int .i64 id] => if TN vs s hp then (match rightB vs && fnd vs id with
      | true => some (.tuple #[rowS hp.sz (dropV vs id).length 23, iN 0], heapOf ([rowB (dropV vs id)] ++ [.dead]) hp)
      | false => some (.tuple #[nilS, iN (bif rightB vs then 7 else 1)], heapOf ([] ++ [.dead]) hp)) else none
  | _ => none
noncomputable def G41 : HeapFn := atRow (fun _ => True) g41
open Classical in
theorem G41_of {vs : List ViewV} {s : Value} {hp : Hp} {id : Int} (h : TN vs s hp) (hn : vs.length < 1000000) : G41 [s, .int .i64 id] hp = match rightB vs && fnd vs id with
      | true => some (.tuple #[rowS hp.sz (dropV vs id).length 23, iN 0], heapOf [rowB (dropV vs id), .dead] hp)
      | false => some (.tuple #[nilS, iN (bif rightB vs then 7 else 1)], heapOf [.dead] hp) := by
  unfold G41
  rw [atRow_of h hn trivial]
  show (if TN vs s hp then _ else _) = _
  rw [if_pos h]
  cases (rightB vs && fnd vs id) <;> rfl
end Go.Proofs.Ytiogdklmhpllfaa.LtA
namespace Go.Proofs.Ytiogdklmhpllfaa.LtA
open Go Go.Proofs Go.Proofs.Ytiogdklmhpllfaa.AI Go.RowKit

noncomputable def G18 : HeapFn := atRow (fun _ => True) g18
def hk0 (o : Blk) (y : ViewV) : Hp := heapOf [o, .dead, .cells 23 (hcL y) false] hp0
section
variable (xs ds : List ViewV) (o : Blk) (s : Value) (n : Nat) (y : ViewV) (oth : Int)
noncomputable def hk1 (xs : List ViewV) (o : Blk) (y : ViewV) : Hp := heapOf (rw2 xs) (hk0 o y)
noncomputable def hk2 (ds xs : List ViewV) (o : Blk) (y : ViewV) : Hp := heapOf (rw2 ds) (hk1 xs o y)
/-- Behind a Get: its answer lies in a variable. -/
noncomputable def hkG (x : ViewV) (hp : Hp) : Hp := heapOf [.dead, hB x] hp
def gT (a : ViewV) (b : Bool) : Value := .tuple #[hcA a, .bool b]
end
/-! ### Plain facts -/
theorem find_mem {vs : List ViewV} {id : Int} {x : ViewV} (h : Up vs) : findV vs id = some x ↔ x ∈ vs ∧ x.id = id := by
  constructor
  · intro hf
    exact ⟨List.mem_of_find?_eq_some hf, by have := List.find?_some hf; simpa [isId] using this⟩
  · rintro ⟨hm, hid⟩
    obtain ⟨i, hi⟩ := List.mem_iff_getElem?.1 hm
    refine find_at hi (by simp [isId, hid]) fun j z hj hz => ?_
    have := rises_up.2 h j i z x hj hz hi
    simp [isId]; omega
/-! ### What is owed -/
section
variable {vs : List ViewV} {s : Value} {hp : Hp}
end
end Go.Proofs.Ytiogdklmhpllfaa.LtA
