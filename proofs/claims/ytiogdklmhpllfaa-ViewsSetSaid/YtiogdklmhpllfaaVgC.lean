/- views.Get, told at whatever row (the beginning of a block, or nil). -/
import Derived.Test.YtiogdklmhpllfaaVgB
set_option linter.unusedVariables false
set_option linter.unusedSimpArgs false
set_option maxRecDepth 100000
namespace Go.Proofs.Ytiogdklmhpllfaa.LtA
open Go Go.Proofs Go.Proofs.Ytiogdklmhpllfaa.AI Go.RowKit

/-! ### Rows that begin a block -/
theorem ro_holds {o : Blk} {vs : List ViewV} (h : Holds vs o) : Holds vs (roBlk o) := by
  rcases h with h | ⟨ty, ro, rest, rfl⟩
  · exact .inl h
  · exact .inr ⟨ty, true, rest, rfl⟩
def TP (vs : List ViewV) (s : Value) (hp : Hp) : Prop := ∃ b c o, s = rowS b vs.length c ∧ hp.get b = some o ∧ inertB o = true ∧ Holds vs o
theorem TR.tp {vs : List ViewV} {s : Value} {hp : Hp} (h : TR vs s hp) : TP vs s hp := by
  obtain ⟨b, c, o, h1, h2, h3, h4⟩ := h
  exact ⟨b, c, o, h1, h2, h3, .of h4⟩
theorem vrow_inj {us : List ViewV} : ∀ {vs : List ViewV}, vrow us = vrow vs → us = vs := by
  induction us with
  | nil => intro vs h; cases vs with
    | nil => rfl
    | cons v vs => simp [vrow, vc] at h
  | cons u us ih => intro vs h; cases vs with
    | nil => simp [vrow, vc] at h
    | cons v vs =>
      simp only [vrow, vc, List.flatMap_cons, List.cons_append, List.nil_append, List.cons.injEq, Value.int.injEq, Value.bool.injEq, true_and] at h
      obtain ⟨a1, a2, a3, a4, a5, a6, a7, h⟩ := h
      have := ih h
      subst this
      cases u; cases v
      simp_all
theorem TP.not_nil {vs : List ViewV} {hp : Hp} (h : TP vs nilS hp) : False := by
  obtain ⟨b, c, o, h, _⟩ := h
  simp [rowS, nilS] at h
theorem TP.uniq {us vs : List ViewV} {s : Value} {hp : Hp} (h1 : TP us s hp) (h2 : TP vs s hp) : us = vs := by
  obtain ⟨b, c, o, rfl, hb, _, hr⟩ := h1
  obtain ⟨b', c', o', e, hb', _, hr'⟩ := h2
  unfold rowS at e
  simp only [Value.slice.injEq, Option.some.injEq, Addr.mk.injEq, and_true] at e
  obtain ⟨rfl, hl, -⟩ := e
  rw [hb] at hb'; cases hb'
  rcases hr with h | ⟨ty, ro, rest, h⟩
  · subst h
    exact (List.eq_nil_of_length_eq_zero hl.symm).symm
  · rcases hr' with h' | ⟨ty', ro', rest', h'⟩
    · subst h'
      exact List.eq_nil_of_length_eq_zero hl
    · rw [h] at h'
      injection h' with _ h2 _
      exact vrow_inj (List.append_inj h2 (by rw [vrow_len, vrow_len, hl])).1
def TQ (vs : List ViewV) (s : Value) (hp : Hp) : Prop := s = nilS ∧ vs = [] ∨ TP vs s hp
theorem TN.tq {vs : List ViewV} {s : Value} {hp : Hp} (h : TN vs s hp) : TQ vs s hp := by
  rcases h with h | h
  · exact .inl h
  · exact .inr h.tp
theorem TQ.uniq {us vs : List ViewV} {s : Value} {hp : Hp} (h1 : TQ us s hp) (h2 : TQ vs s hp) : us = vs := by
  rcases h1 with ⟨rfl, rfl⟩ | h1
  · rcases h2 with ⟨-, rfl⟩ | h2
    · rfl
    · exact h2.not_nil.elim
  · rcases h2 with ⟨rfl, rfl⟩ | h2
    · exact h1.not_nil.elim
    · exact h1.uniq h2
theorem TP.ext {vs : List ViewV} {s : Value} {hp : Hp} (h : TP vs s hp) (hk : hp.ok) (O : List Blk) : TP vs s (heapOf O hp) := by
  obtain ⟨b, c, o, rfl, hb, hi, hr⟩ := h
  exact ⟨b, c, o, rfl, by rw [heapOf_get, if_pos (lt_of_get hk hb), hb], hi, hr⟩
theorem TQ.ext {vs : List ViewV} {s : Value} {hp : Hp} (h : TQ vs s hp) (hk : hp.ok) (O : List Blk) : TQ vs s (heapOf O hp) := by
  rcases h with h | h
  · exact .inl h
  · exact .inr (h.ext hk O)
open Classical in
/-- Told at whatever row that begins a block. -/
noncomputable def atP (k : List ViewV → HeapFn) : HeapFn := fun args hp => match args with
  | s :: _ => if h : ∃ vs, TQ vs s hp ∧ vs.length < 1000000 then k h.choose args hp else none
  | _ => none
theorem atP_goal {f : FuncId} {k : List ViewV → HeapFn} (h : ∀ vs, vs.length < 1000000 → CallGoal Try.prog f (k vs)) : CallGoal Try.prog f (atP k) := by
  intro args hp v hp' he hk
  unfold atP at he
  split at he
  case h_2 => cases he
  split at he
  · rename_i hx
    exact h _ hx.choose_spec.2 _ _ _ _ he hk
  · cases he
theorem atP_of {k : List ViewV → HeapFn} {vs : List ViewV} {s : Value} {r : List Value} {hp : Hp} (h : TQ vs s hp) (hn : vs.length < 1000000) : atP k (s :: r) hp = k vs (s :: r) hp := by
  unfold atP
  have hx : ∃ vs, TQ vs s hp ∧ vs.length < 1000000 := ⟨vs, h, hn⟩
  simp only
  rw [dif_pos hx]
  rw [hx.choose_spec.1.uniq h]

/-! ### Get -/
noncomputable def c0 : CallF := aCall Try.prog (extH Try.prog []) 5
theorem c0_ok : CallOk Try.prog c0 := aCall_sound (extH_ok .nil) follows 5
noncomputable def fb33 : Code := (Try.f33.body).getD .skip
noncomputable def c33a : Code := sL fb33
noncomputable def c33b : Code := sL (sL (sR fb33))
noncomputable def c33c : Code := unL (unB (sR (sL (sR fb33))))
noncomputable def c33d : Code := sR (sR fb33)
noncomputable abbrev code33 : Code := .seq c33a (.seq (.seq c33b (.block 0 (.loop c33c))) c33d)
theorem body33 : Try.f33.body = some code33 := by kernel_rfl
theorem ntmps33 : Try.f33.ntmps = 22 := by kernel_rfl
theorem s33a : codeSafe Try.prog 22 c33a = true := by kernel_rfl
theorem s33b : codeSafe Try.prog 22 c33b = true := by kernel_rfl
theorem s33c : codeSafe Try.prog 22 c33c = true := by kernel_rfl
theorem s33d : codeSafe Try.prog 22 c33d = true := by kernel_rfl
def hB (x : ViewV) : Blk := .cells 23 (hcL x) false
theorem q33 (x : ViewV) (b : Bool) (g : Nat → Value) : retVal Try.prog Try.f33 (stOf 22 g [(4, pb 0 0), (5, .bool b)] [hB x]) = some (.tuple #[hcA x, .bool b]) := by kernel_rfl
section
variable (o : Blk) (n c : Nat) (id : Int)
abbrev B33 : St := ⟨tmsOf [rowS 0 n c, .int .i64 id] 0 .leaf, heapOf [o, .dead] hp0, []⟩
abbrev A33 (g : Nat → Value) : St := stOf 22 g [(0, rowS 0 n c), (1, .int .i64 id), (4, pb 1 0)] [o, hB (zeroV 0)]
abbrev L33 (i : Nat) (g : Nat → Value) : St := stOf 22 g [(1, .int .i64 id), (4, pb 1 0), (8, rowS 0 n c), (9, iN n), (10, iN i)] [o, hB (zeroV 0)]
abbrev X33 (g : Nat → Value) : St := stOf 22 g [(4, pb 0 0)] [hB (zeroV 0)]
theorem r33a : (execE Try.prog c0 [] [] [] 10 c33a (B33 o n c id)).map (fun y => (look2 1 [0, 2] [0, 1, 4] (y.1, y.2.1), y.2.2)) = some ((.normal, [o, hB (zeroV 0)], [(0, rowS 0 n c), (1, .int .i64 id), (4, pb 1 0)], true), [], [], []) := by kernel_rfl
theorem r33b (g : Nat → Value) : (execE Try.prog c0 [] [] [] 10 c33b (A33 o n c id g)).map (fun y => (look2 1 [0, 1] [1, 4, 8, 9, 10] (y.1, y.2.1), y.2.2)) = some ((.normal, [o, hB (zeroV 0)], [(1, .int .i64 id), (4, pb 1 0), (8, rowS 0 n c), (9, iN n), (10, iN 0)], true), [], [], []) := by kernel_rfl
theorem r33x (i : Nat) (g : Nat → Value) : (execE Try.prog c0 [(11, .bool false)] [] [] 20 c33c (L33 o n c id i g)).map (fun y => (look2 0 [1] [4] (y.1, y.2.1), y.2.2)) =
    some ((.exit 0, [hB (zeroV 0)], [(4, pb 0 0)], true), [(some (.bool (decide (Int.ofNat i < Int.ofNat n))), .bool false)], [], []) := by kernel_rfl
noncomputable def owe33 (i : Nat) (x : ViewV) : List Obl :=
  [(some (.bool (decide (Int.ofNat i < Int.ofNat n))), .bool true), ixO 0 n c i, ldO (heapOf ([o, hB (zeroV 0)] ++ [.dead]) hp0).get 34 0 (i * 7) (.agg ⟨vc x⟩)]
def see33 (i : Nat) (x : ViewV) : List (Tmp × Value) := [(11, .bool true), (12, pb 0 (i * 7)), (13, .agg ⟨vc x⟩)]
theorem r33f (i : Nat) (x : ViewV) (g : Nat → Value) : (execE Try.prog c0 (see33 i x ++ [(17, .bool false), (20, iN (i + 1))]) [] [] 20 c33c (L33 o n c id i g)).map (fun y => (look2 1 [0, 1] [1, 4, 8, 9, 10] (y.1, y.2.1), y.2.2)) =
    some ((.normal, [o, hB (zeroV 0)], [(1, .int .i64 id), (4, pb 1 0), (8, rowS 0 n c), (9, iN n), (10, iN (i + 1))], true), owe33 o n c i x ++ [(some (.bool (x.id == id)), .bool false), nxt29 i], [], []) := by kernel_rfl
theorem r33g (i : Nat) (x : ViewV) (g : Nat → Value) : (execE Try.prog c0 (see33 i x ++ [(17, .bool true)]) [] [] 20 c33c (L33 o n c id i g)).map (fun y => (look2 0 [1] [4, 5] (y.1, y.2.1), y.2.2)) =
    some ((.ret, [hB x], [(4, pb 0 0), (5, .bool true)], true), owe33 o n c i x ++ [(some (.bool (x.id == id)), .bool true)], [], []) := by kernel_rfl
theorem r33d (g : Nat → Value) : (execE Try.prog c0 [] [] [] 20 c33d (X33 g)).map (fun y => (look2 0 [0] [4, 5] (y.1, y.2.1), y.2.2)) =
    some ((.ret, [hB (zeroV 0)], [(4, pb 0 0), (5, .bool false)], true), [], [], []) := by kernel_rfl
theorem r33n : (execQ Try.prog c0 [] 40 code33 ⟨tmsOf [nilS, .int .i64 id] 0 .leaf, heapOf [.dead] hp0, []⟩).map (fun y => (look2 0 [1] [4, 5] (y.1, y.2.1), y.2.2)) =
    some ((.ret, [hB (zeroV 0)], [(4, pb 0 0), (5, .bool false)], true), []) := by kernel_rfl
end
def isId (id : Int) (x : ViewV) : Bool := x.id == id
def findV (vs : List ViewV) (id : Int) : Option ViewV := vs.find? (isId id)
def getV (vs : List ViewV) (id : Int) : Value := .tuple #[hcA ((findV vs id).getD (zeroV 0)), .bool (findV vs id).isSome]
theorem find_at {α : Type} {p : α → Bool} : ∀ {vs : List α} {i : Nat} {x : α}, vs[i]? = some x → p x = true → (∀ j y, j < i → vs[j]? = some y → p y = false) → vs.find? p = some x
  | [], i, x, h, _, _ => by simp at h
  | v :: vs, 0, x, h, hp, _ => by
    simp at h; subst h
    rw [List.find?_cons_of_pos hp]
  | v :: vs, i + 1, x, h, hp, hb => by
    rw [List.find?_cons_of_neg (by rw [hb 0 v (by omega) rfl]; simp)]
    exact find_at (by simpa using h) hp fun j y hj hy => hb (j + 1) y (by omega) (by simpa using hy)
theorem find_no {α : Type} {p : α → Bool} {vs : List α} (h : ∀ j y, j < vs.length → vs[j]? = some y → p y = false) : vs.find? p = none := by
  refine List.find?_eq_none.2 fun x hx => ?_
  obtain ⟨i, hi⟩ := List.mem_iff_getElem?.1 hx
  rw [h i x (List.getElem?_eq_some_iff.1 hi).1 hi]; simp
def EndsG (vs : List ViewV) (id : Int) (e : Exit) (st : St) : Prop := e = .ret ∧ ∃ g, st = stOf 22 g [(4, pb 0 0), (5, .bool (findV vs id).isSome)] [hB ((findV vs id).getD (zeroV 0))]
theorem get_fr (o : Blk) (ho : inertB o = true) (vs : List ViewV) (hn : vs.length < 1000000) (hrow : Holds vs o) (c : Nat) (id : Int) (W : Base) :
    FRwp Try.prog 22 W code33 (B33 o vs.length c id) (EndsG vs id) := by
  refine FRwp.seq (Q1 := fun x st => x = .normal ∧ ∃ g, st = A33 o vs.length c id g) (FRwp.pieceY c0_ok follows 1 _ _ _ _ (r33a o vs.length c id) Met.nil MetH.nil MetE.nil s33a rfl rfl (fix11 ho _) fun g => ⟨rfl, g, rfl⟩) ?_ (fun x st hne hq => absurd hq.1 hne)
  rintro st ⟨-, g, rfl⟩
  let Q2 : Exit → St → Prop := fun x st => (x = .normal ∧ findV vs id = none ∧ ∃ g, st = X33 g) ∨ (x = .ret ∧ EndsG vs id x st)
  refine FRwp.seq (Q1 := Q2) ?_ ?_ ?_
  · refine FRwp.seq (Q1 := fun x st => x = .normal ∧ ∃ g, st = L33 o vs.length c id 0 g) (FRwp.pieceY c0_ok follows 1 _ _ _ _ (r33b o vs.length c id g) Met.nil MetH.nil MetE.nil s33b rfl rfl (fix11 ho _) fun g => ⟨rfl, g, rfl⟩) ?_ (fun x st hne hq => absurd hq.1 hne)
    rintro st ⟨-, g, rfl⟩
    refine FRwp.block ?_
    refine FRwp.loop (fun k st => ∃ i g, i ≤ vs.length ∧ k = vs.length - i ∧ (∀ j y, j < i → vs[j]? = some y → isId id y = false) ∧ st = L33 o vs.length c id i g) ?_ (k := vs.length) ⟨0, g, Nat.zero_le _, rfl, fun j y hj => absurd hj (Nat.not_lt_zero _), rfl⟩
    rintro k st ⟨i, g, hi, hk, hno, rfl⟩
    cases h11 : decide (Int.ofNat i < Int.ofNat vs.length) with
    | false =>
      refine FRwp.pieceY c0_ok follows 0 _ _ _ _ (r33x o vs.length c id i g) (Met.cons (met_bool h11) Met.nil) MetH.nil MetE.nil s33c rfl rfl (noFix _) fun g' => .inr ⟨by simp, ?_⟩
      show (if (0 : Nat) = 0 then Q2 .normal _ else Q2 (.exit 0) _)
      rw [if_pos rfl]
      have hii : i = vs.length := by simp at h11; omega
      subst hii
      exact .inl ⟨rfl, find_no hno, g', rfl⟩
    | true =>
      have hlt : i < vs.length := by simpa using h11
      obtain ⟨x, hx⟩ : ∃ x, vs[i]? = some x := ⟨_, List.getElem?_eq_getElem hlt⟩
      have hmet : Met (owe33 o vs.length c i x) := Met.cons (met_bool h11) (Met.cons (vidx_ok hlt) (Met.cons (vload_ok (rowAt0' (row_of_mem hrow (List.mem_of_getElem? hx))) hx) Met.nil))
      cases h17 : isId id x with
      | false =>
        refine FRwp.pieceY c0_ok follows 1 _ _ _ _ (r33f o vs.length c id i x g) (met_app hmet (Met.cons (met_bool h17) (Met.cons (wrap_up (by omega)) Met.nil))) MetH.nil MetE.nil s33c rfl rfl (fix11 ho _) fun g' => .inl ⟨rfl, vs.length - (i + 1), by omega, i + 1, g', by omega, rfl, fun j y hj hy => ?_, rfl⟩
        rcases Nat.lt_succ_iff_lt_or_eq.1 hj with h' | h'
        · exact hno j y h' hy
        · subst h'; rw [hx] at hy; cases hy; exact h17
      | true =>
        refine FRwp.pieceY c0_ok follows 0 _ _ _ _ (r33g o vs.length c id i x g) (met_app hmet (Met.cons (met_bool h17) Met.nil)) MetH.nil MetE.nil s33c rfl rfl (noFix _) fun g' => .inr ⟨by simp, .inr ⟨rfl, rfl, g', ?_⟩⟩
        have hf : findV vs id = some x := find_at hx h17 hno
        rw [hf]; rfl
  · rintro st (⟨-, hf, g, rfl⟩ | ⟨h, -⟩)
    · refine FRwp.pieceY c0_ok follows 0 _ _ _ _ (r33d g) Met.nil MetH.nil MetE.nil s33d rfl rfl (noFix _) fun g' => ⟨rfl, g', ?_⟩
      rw [hf]; rfl
    · cases h
  · rintro x st hne (⟨h, -⟩ | ⟨-, h⟩)
    · exact absurd h hne
    · exact h
theorem s33 : codeSafe Try.prog 22 code33 = true := by kernel_rfl
theorem get_nil (id : Int) (W : Base) : FRwp Try.prog 22 W code33 ⟨tmsOf [nilS, .int .i64 id] 0 .leaf, heapOf [.dead] hp0, []⟩ (EndsG [] id) :=
  FRwp.piece c0_ok follows 0 _ _ _ _ (r33n id) Met.nil s33 rfl rfl rfl (noFix _) fun g => ⟨rfl, g, rfl⟩
open Classical in
noncomputable def g33 (vs : List ViewV) : HeapFn := fun args hp => match args with
  | [s, .int .i64 id] => if TQ vs s hp then some (getV vs id, heapOf ([] ++ [.dead]) hp) else none
  | _ => none
theorem hk33 (vs : List ViewV) (hn : vs.length < 1000000) : CallGoal Try.prog 33 (g33 vs) := scan_goal follows Try.func33 body33 (by kernel_rfl) fun args hp v hp' h hk => by
  unfold g33 at h
  rw [ntmps33]
  split at h
  case h_2 => cases h
  rename_i s id
  split at h
  case isFalse => cases h
  rename_i hT
  cases h
  have fin : ∀ {e : Exit} {st : St}, EndsG vs id e st → (e = .normal ∨ e = .ret) ∧ st.df = [] ∧ ∃ v0, retVal Try.prog Try.f33 st = some v0 ∧ ok3 v0 = true ∧
      (∀ b ∈ ([] : List Nat), ∃ o, st.hp.get b = some o ∧ okBlk o = true ∧ rwB o = true) ∧ getV vs id = sh3 [] hp.sz v0 ∧ [] = outOf [] hp.sz st.hp := by
    rintro e st ⟨rfl, g, rfl⟩
    exact ⟨.inr rfl, rfl, _, q33 _ _ g, rfl, (fun b hb => by cases hb), by simp [sh3, sh2, sh1, getV, hcA], rfl⟩
  rcases hT with ⟨rfl, rfl⟩ | ⟨b, c, o, rfl, hb, hi, hr⟩
  · refine ⟨[], [], [], rfl, rfl, rfl, rfl, (fun b hb => by cases hb), rfl, (by simp), fun W => ?_⟩
    have e1 : [nilS, .int .i64 id].map (sh3 [] 0) = [nilS, .int .i64 id] := by simp [sh3, sh2, sh1, nilS]
    rw [e1]
    exact FRwp.mono (get_nil id W) fun e st q => fin q
  · refine ⟨[b], [], [], rfl, rfl, rfl, rfl, fun b' hb' => ?_, rfl, (by simp), fun W => ?_⟩
    · have : b' = b := by simpa using hb'
      subst this
      exact ⟨o, hb, inert_start hi⟩
    · have e1 : [rowS b vs.length c, .int .i64 id].map (sh3 [b] 0) = [rowS 0 vs.length c, .int .i64 id] := by simp [sh3, sh2, sh1, rho, idxOf, rowS]
      rw [e1, start1 hb hi]
      exact FRwp.mono (get_fr (roBlk o) (ro_inert hi) vs hn (ro_holds hr) c id W) fun e st q => fin q
noncomputable def G33 : HeapFn := atP g33
theorem hkG33 : CallGoal Try.prog 33 G33 := atP_goal fun vs hn => hk33 vs hn
open Classical in
theorem G33_of {vs : List ViewV} {s : Value} {hp : Hp} {id : Int} (h : TQ vs s hp) (hn : vs.length < 1000000) : G33 [s, .int .i64 id] hp = some (getV vs id, heapOf [.dead] hp) := by
  unfold G33
  rw [atP_of h hn]
  show (if TQ vs s hp then _ else _) = _
  rw [if_pos h]; rfl
end Go.Proofs.Ytiogdklmhpllfaa.LtA
namespace Go.Proofs.Ytiogdklmhpllfaa.LtA
open Go Go.Proofs Go.Proofs.Ytiogdklmhpllfaa.AI Go.RowKit

/-! ### What is told of a block may be less -/
theorem cut_goal {P : Program} {f : FuncId} {g g2 : HeapFn} (hg : CallGoal P f g)
    (H : ∀ args hp v hp2, g2 args hp = some (v, hp2) → hp.ok → ∃ hp1, g args hp = some (v, hp1) ∧ hp2.ok ∧ hp2.sz = hp1.sz ∧
      ∀ b, hp2.get b = hp1.get b ∨ (hp.sz ≤ b ∧ b < hp1.sz ∧ ∃ ty L1 L2, hp1.get b = some (.cells ty (L1 ++ L2) false) ∧ hp2.get b = some (.cells ty L1 false))) : CallGoal P f g2 := by
  intro args hp v hp2 he hk
  obtain ⟨hp1, h1, hk2, hsz, hcut⟩ := H args hp v hp2 he hk
  obtain ⟨hk1, hle, hgo⟩ := hg args hp v hp1 h1 hk
  refine ⟨hk2, by rw [hsz]; exact hle, fun m h w args' hfr s ra => ?_⟩
  have step : ∀ v' w', (∃ m', Go1 m (ovr hp h) w m' (ovr hp1 h) w' ∧ VRel m' (ovr hp1 h) v v') → ∃ m', Go1 m (ovr hp h) w m' (ovr hp2 h) w' ∧ VRel m' (ovr hp2 h) v v' := ?_
  · rcases hgo m h w args' (fun b a c => hfr b a (by rw [hsz]; exact c)) s ra with ⟨v', w', q1, q2⟩ | ⟨q1, q2⟩
    · exact .inl ⟨v', w', q1, step v' w' q2⟩
    · exact .inr ⟨q1, q2.mono fun e w' hh => by
        obtain ⟨v', h1, h2⟩ := hh
        exact ⟨v', h1, step v' w' h2⟩⟩
  rintro v' w' ⟨m', go, rv⟩
  have hov : ∀ b, ovr hp2 h b = ovr hp1 h b ∨ (hp.sz ≤ b ∧ b < hp1.sz ∧ ∃ ty L1 L2, ovr hp1 h b = some (.cells ty (L1 ++ L2) false) ∧ ovr hp2 h b = some (.cells ty L1 false)) := by
    intro b
    unfold ovr
    rw [hsz]
    by_cases hb : b < hp1.sz
    · simp only [if_pos hb]
      rcases hcut b with e | ⟨q1, q2, q3⟩
      · exact .inl e
      · exact .inr ⟨q1, q2, q3⟩
    · exact .inl (by rw [if_neg hb, if_neg hb])
  have hrw : ∀ b, rw? (ovr hp2 h) b = rw? (ovr hp1 h) b := fun b => by
    unfold rw?
    rcases hov b with e | ⟨_, _, ty, L1, L2, e1, e2⟩
    · rw [e]
    · rw [e1, e2]
  have hlv : ∀ b, live? (ovr hp2 h) b = live? (ovr hp1 h) b := fun b => by
    unfold live?
    rcases hov b with e | ⟨_, _, ty, L1, L2, e1, e2⟩
    · rw [e]
    · rw [e1, e2]
  have le2 : Le m' (ovr hp1 h) m' (ovr hp2 h) := ⟨fun b hb => (by
    rcases hov b with e | ⟨_, _, ty, L1, L2, e1, _⟩
    · rw [e]; exact hb
    · rw [e1] at hb; cases hb), fun b x hx => .inr hx⟩
  refine ⟨m', ⟨go.le.trans le2, ⟨fun b x hx => ?_, fun b b' x x' hx hx' hr hl e => go.sim.inj b b' x x' hx hx' (by rw [← hrw]; exact hr) (by rw [← hlv]; exact hl) e⟩, go.size, go.new, go.frame, go.un, fun b o hb hm => ?_, fun b o hb => ?_, fun b x hx hr => go.rwb b x hx (by rw [← hrw]; exact hr), go.os, go.tape, go.output⟩, rv.mono le2⟩
  · obtain ⟨o, ho, hbr⟩ := go.sim.dom b x hx
    rcases hov b with e | ⟨_, _, ty, L1, L2, e1, e2⟩
    · exact ⟨o, by rw [e]; exact ho, hbr.mono le2 rfl⟩
    · rw [e1] at ho; cases ho
      obtain ⟨c, fr, k1, k2, k3, k4, k5⟩ := hbr
      refine ⟨_, e2, c, fr, k1, by rw [List.length_append] at k2; omega, k3, fun i v v' p1 p2 => (k4 i v v' (get_app p1) p2).mono le2, ⟨k5.1, fun h => by cases h⟩⟩
  · have := go.idle b o hb hm
    rcases hov b with e | ⟨q1, q2, _⟩
    · rw [e]; exact this
    · have hn := hfr b q1 (by rw [hsz]; exact q2)
      unfold ovr at hb
      rw [if_neg (by omega)] at hb
      rw [hn] at hb; cases hb
  · obtain ⟨o', ho'⟩ := go.ex b o hb
    rcases hov b with e | ⟨_, _, ty, L1, L2, e1, e2⟩
    · exact ⟨o', by rw [e]; exact ho'⟩
    · exact ⟨_, e2⟩
/-- One row of scalars that is the caller's, at a frame's beginning. -/
theorem start1_sim {m : BM} {h : HG} {w : World} {hp : Hp} (s : Sim m (ovr hp h) w) (hk : hp.ok) {b : Nat} {t1 : TypeId} {L : List Value} (h1 : hp.get b = some (.cells t1 L false)) (i1 : L.all inert = true)
    {r δ E : Nat} (hm : m b = some (r, δ, E)) : Sim (canM m [b]) (heapOf [.cells t1 L false, .dead] hp0).get w := by
  have g1 := ovr_sub hk h b _ h1
  obtain ⟨o', ho', hbr⟩ := s.dom b _ hm
  rw [g1] at ho'; cases ho'
  obtain ⟨c, fr, q1, q2, q3, q4, q5⟩ := hbr
  have e0 : (heapOf [.cells t1 L false, .dead] hp0).get 0 = some (.cells t1 L false) := by rw [heapOf0_get]; rfl
  have cM : ∀ i x, canM m [b] i = some x → (i = 0 ∧ m b = some x) := by
    intro i x hx
    unfold canM at hx
    match i with
    | 0 => exact ⟨rfl, hx⟩
    | i + 1 => simp at hx
  refine ⟨fun i x hx => ?_, fun i i' x x' hx hx' hr hl hxx => ?_⟩
  · obtain ⟨rfl, hy⟩ := cM i x hx
    rw [hm] at hy; cases hy
    exact ⟨_, e0, c, fr, q1, q2, q3, fun i v v' p1 p2 => inert_any (List.all_eq_true.1 i1 v (List.mem_of_getElem? p1)) (q4 i v v' p1 p2), q5⟩
  · obtain ⟨rfl, _⟩ := cM i x hx
    obtain ⟨rfl, _⟩ := cM i' x' hx'
    rfl

/-! ### Delete -/
noncomputable def fb69 : Code := (Try.f69.body).getD .skip
theorem body69 : Try.f69.body = some fb69 := by kernel_rfl
theorem s69 : codeSafe Try.prog 33 fb69 = true := by kernel_rfl
theorem ntmps69 : Try.f69.ntmps = 33 := by kernel_rfl
theorem q69 (v : Value) (O : List Blk) (g : Nat → Value) : retVal Try.prog Try.f69 (stOf 33 g [(6, v)] O) = some v := by kernel_rfl
section
variable (L L1 L2 : List Value) (n c i : Nat)
def B69 : St := ⟨tmsOf [slS 0 0 n c, iN i, iN (i + 1)] 0 .leaf, heapOf [.cells 34 L false, .dead] hp0, []⟩
def hD (L : List Value) : Hp := heapOf [.cells 34 L false, .dead] hp0
theorem r69a (n1 c1 c2 c3 c4 : Nat) (v13 : Value) : (execE Try.prog c0 [(13, v13), (16, .bool false), (22, slS 0 0 i c1), (25, slS 0 ((i + 1) * 7) (n - (i + 1)) c2), (31, slS 0 (n1 * 7) 1 c3)] []
      [(26, slS 0 0 n1 c4, [.put 0 (.cells 34 L1 false)]), (2031, .tuple #[], [.put 0 (.cells 34 L2 false)])] 60 fb69 (B69 L n c i)).map (fun y => (look2 1 [0] [6] (y.1, y.2.1), y.2.2)) =
    some ((.ret, [.cells 34 L2 false], [(6, slS 0 0 n1 c4)], true),
      [(fstV ((aSlice Try.prog 29 (slS 0 0 n c) (some (iN i)) (some (iN (i + 1))) (some (iN n))).map fun v => (v, none)), v13), (some (.bool (Int.ofNat i == Int.ofNat (i + 1))), .bool false),
       (fstV ((aSlice Try.prog 29 (slS 0 0 n c) none (some (iN i)) none).map fun v => (v, none)), slS 0 0 i c1), (fstV ((aSlice Try.prog 29 (slS 0 0 n c) (some (iN (i + 1))) none none).map fun v => (v, none)), slS 0 ((i + 1) * 7) (n - (i + 1)) c2),
       (fstV ((aSlice Try.prog 29 (slS 0 0 n1 c4) (some (iN n1)) (some (iN n)) none).map fun v => (v, none)), slS 0 (n1 * 7) 1 c3)], [],
      [(aAppend Try.prog (hD L).get 2 [29, 29] [slS 0 0 i c1, slS 0 ((i + 1) * 7) (n - (i + 1)) c2], (slS 0 0 n1 c4, [.put 0 (.cells 34 L1 false)])),
       (aClear Try.prog ((hD L).put 0 (.cells 34 L1 false)).get [29] [slS 0 (n1 * 7) 1 c3], (.tuple #[], [.put 0 (.cells 34 L2 false)]))]) := by kernel_rfl
theorem r69b (c1 c2 c3 : Nat) (v13 : Value) : (execE Try.prog c0 [(13, v13), (16, .bool false), (22, slS 0 0 i c1), (25, slS 0 ((i + 1) * 7) (n - (i + 1)) c2), (31, slS 0 (i * 7) 1 c3)] []
      [(26, slS 0 0 i c1, []), (2031, .tuple #[], [.put 0 (.cells 34 L2 false)])] 60 fb69 (B69 L n c i)).map (fun y => (look2 1 [0] [6] (y.1, y.2.1), y.2.2)) =
    some ((.ret, [.cells 34 L2 false], [(6, slS 0 0 i c1)], true),
      [(fstV ((aSlice Try.prog 29 (slS 0 0 n c) (some (iN i)) (some (iN (i + 1))) (some (iN n))).map fun v => (v, none)), v13), (some (.bool (Int.ofNat i == Int.ofNat (i + 1))), .bool false),
       (fstV ((aSlice Try.prog 29 (slS 0 0 n c) none (some (iN i)) none).map fun v => (v, none)), slS 0 0 i c1), (fstV ((aSlice Try.prog 29 (slS 0 0 n c) (some (iN (i + 1))) none none).map fun v => (v, none)), slS 0 ((i + 1) * 7) (n - (i + 1)) c2),
       (fstV ((aSlice Try.prog 29 (slS 0 0 i c1) (some (iN i)) (some (iN n)) none).map fun v => (v, none)), slS 0 (i * 7) 1 c3)], [],
      [(aAppend Try.prog (hD L).get 2 [29, 29] [slS 0 0 i c1, slS 0 ((i + 1) * 7) (n - (i + 1)) c2], (slS 0 0 i c1, [])),
       (aClear Try.prog (hD L).get [29] [slS 0 (i * 7) 1 c3], (.tuple #[], [.put 0 (.cells 34 L2 false)]))]) := by kernel_rfl
end
/-- Known to have room for x more. -/
def c0x (x : Nat) : Nat := 3 * (7 + 1000000 * x)
theorem c0x_mod (x : Nat) : c0x x % 3 = 0 := by unfold c0x; omega
theorem c0x_sp (x : Nat) : c0x x / 3 / 1000000 = x := by unfold c0x; omega
theorem c0x_w (x : Nat) : c0x x / 3 % 1000000 = 7 := by unfold c0x; omega
theorem spare_c0x (x : Nat) : spareOf (c0x x) = x := by
  unfold spareOf
  rw [c0x_mod]
  exact c0x_sp x
theorem cc_c0x (x n h : Nat) : cc (c0x x) n h = c0x (n + x - h) := by
  unfold cc
  have h0 : flagOf (c0x x) = 0 := c0x_mod x
  rw [h0, if_neg (by simp), if_pos rfl, spare_c0x]
  unfold wide
  rw [c0x_w]
  rfl
theorem slice_mx {b n c i : Nat} (hi : i < n) : ∃ v, fstV ((aSlice Try.prog 29 (slS b 0 n c) (some (iN i)) (some (iN (i + 1))) (some (iN n))).map fun v => (v, none)) = some v := by
  have h1 : (0 : Int) ≤ Int.ofNat n ∧ Int.ofNat n ≤ (n : Int) := ⟨Int.natCast_nonneg n, by simp⟩
  have h2 : (0 : Int) ≤ Int.ofNat (i + 1) ∧ Int.ofNat (i + 1) ≤ (n : Int) := ⟨Int.natCast_nonneg _, by simp only [Int.ofNat_eq_natCast]; omega⟩
  have h3 : (0 : Int) ≤ Int.ofNat i ∧ Int.ofNat i ≤ ((i + 1 : Nat) : Int) := ⟨Int.natCast_nonneg _, by simp only [Int.ofNat_eq_natCast]; omega⟩
  simp only [aSlice, slS, iN, Try.underlying29, size34, bound]
  rw [if_pos h1]
  simp only [Int.ofNat_eq_natCast, Int.toNat_natCast] at *
  rw [if_pos h2]
  simp only [Int.toNat_natCast]
  rw [if_pos h3]
  exact ⟨_, rfl⟩
theorem slice_both {b n c l : Nat} (hl : l = n + 1) (h : 1 ≤ spareOf c) : fstV ((aSlice Try.prog 29 (slS b 0 n c) (some (iN n)) (some (iN l)) none).map fun v => (v, none)) = some (slS b (n * 7) 1 (cc c n l)) := by
  subst hl
  have h1 : (0 : Int) ≤ Int.ofNat (n + 1) ∧ Int.ofNat (n + 1) ≤ ((n + spareOf c : Nat) : Int) := ⟨Int.natCast_nonneg _, by simp only [Int.ofNat_eq_natCast]; omega⟩
  have h2 : (0 : Int) ≤ Int.ofNat n ∧ Int.ofNat n ≤ ((n + 1 : Nat) : Int) := ⟨Int.natCast_nonneg _, by simp only [Int.ofNat_eq_natCast]; omega⟩
  simp only [aSlice, slS, iN, Try.underlying29, size34, bound]
  rw [if_pos h1]
  simp only [Int.ofNat_eq_natCast, Int.toNat_natCast] at *
  rw [if_pos h2]
  simp [fstV, cc]
theorem del_app {get : Nat → Option Blk} {L A B C D : List Value} {n i k y c2 : Nat} (h0 : get 0 = some (.cells 34 L false)) (e1 : L = A ++ B ++ C) (e2 : getR L ((i + 1) * 7) (k * 7) = some D) (hA : A.length = i * 7) (hB : B.length = k * 7) (hD : D.length = k * 7) (oD : D.all isOne = true) (hk : 0 < k) (hy : k ≤ y) (hn : i + k < 1000000) :
    aAppend Try.prog get 2 [29, 29] [slS 0 0 i (c0x y), slS 0 ((i + 1) * 7) k c2] = some (slS 0 0 (i + k) (c0x (y - k)), [.put 0 (.cells 34 (A ++ D ++ C) false)]) := by
  obtain ⟨ii, hi, h7, h56⟩ := info34
  obtain ⟨z, hz, hzl⟩ := zero34
  have hsrc : aSrc Try.prog get 7 z (.slice 34) (slS 0 ((i + 1) * 7) k c2) = some (D, k) := by
    unfold aSrc
    simp only [slS, srcLen, srcCells, h0]
    rw [if_neg (by omega), if_neg (by omega), e2]
    rfl
  have hold : getR L 0 (i * 7) = some A := by
    rw [e1]
    have := getR_mid (A := []) (B := A) (C := B ++ C) rfl hA
    simpa using this
  have hlen : L.length = i * 7 + k * 7 + C.length := by rw [e1]; simp [hA, hB]; omega
  unfold aAppend
  simp only [Try.underlying29, hi, hz, h7, h56, hzl]
  rw [if_neg (by decide)]
  simp only [hsrc, oD, hD]
  rw [if_neg (by simp)]
  simp only [slS]
  rw [if_neg (by omega), if_neg (by omega)]
  simp only [h0, hold]
  rw [if_neg (by rw [c0x_sp]; omega), if_neg (by have := c0x_mod y; omega), if_pos ⟨c0x_mod y, trivial, by rw [hlen]; omega⟩]
  rw [c0x_sp, c0x_w, e1, Nat.zero_add, putL_mid hA (by omega)]
  rfl
noncomputable def z7 : List Value := (tzero Try.prog 34).getD []
theorem zero34e : tzero Try.prog 34 = some z7 := by kernel_rfl
theorem z7_len : z7.length = 7 := by kernel_rfl
theorem z7_inert : z7.all inert = true := by kernel_rfl
theorem del_clear {get : Nat → Option Blk} {A C : List Value} {k c3 : Nat} (h0 : get 0 = some (.cells 34 (A ++ C) false)) (hA : A.length = k * 7) (hC : C.length = 7) :
    aClear Try.prog get [29] [slS 0 (k * 7) 1 c3] = some (.tuple #[], [.put 0 (.cells 34 (A ++ z7) false)]) := by
  unfold aClear
  simp only [slS, Try.underlying29]
  rw [if_neg (by omega)]
  simp only [zero34e, h0]
  have er : repL z7 1 = z7 := by show z7 ++ [] = z7; rw [List.append_nil]
  rw [er, if_pos (by simp [z7_len, hA, hC])]
  have := putL_mid (A := A) (B := C) (C := []) (D := z7) hA (by rw [z7_len, hC])
  rw [List.append_nil, List.append_nil] at this
  rw [this]
/-- What Delete's own frame ends with. -/
def EndsD (R : List Value) (n : Nat) (e : Exit) (st : St) : Prop := (e = .normal ∨ e = .ret) ∧ st.df = [] ∧ ∃ c v0, v0 = slS 0 0 (n - 1) c ∧ retVal Try.prog Try.f69 st = some v0 ∧ st.hp.get 0 = some (.cells 34 R false)
theorem del_fr {L : List Value} {n i x : Nat} {W : Base} (hL : L.length = n * 7) (iL : L.all inert = true) (oL : L.all isOne = true) (hn : n < 1000000) (hi : i < n) :
    FRwp Try.prog 33 W fb69 (B69 L n (c0x x) i) (EndsD (L.take (i * 7) ++ L.drop ((i + 1) * 7) ++ z7) n) := by
  have iR : (L.take (i * 7) ++ L.drop ((i + 1) * 7) ++ z7).all inert = true := by rw [List.all_append, List.all_append, all_take iL, all_drop iL, z7_inert]; rfl
  have g0 : (hD L).get 0 = some (.cells 34 L false) := by unfold hD; rw [heapOf0_get]; rfl
  obtain ⟨v13, h13⟩ := slice_mx (b := 0) (c := c0x x) hi
  have ht := take_len hL (Nat.le_of_lt hi)
  have hd1 := drop_len (i := i + 1) hL hi
  have hne : some (Value.bool (Int.ofNat i == Int.ofNat (i + 1))) = some (.bool false) := eqI_ne (by omega)
  have hS1 : fstV ((aSlice Try.prog 29 (slS 0 0 n (c0x x)) none (some (iN i)) none).map fun v => (v, none)) = some (slS 0 0 i (c0x (n + x - i))) := by
    rw [slice_hi (by omega), cc_c0x]
  have hS2 : fstV ((aSlice Try.prog 29 (slS 0 0 n (c0x x)) (some (iN (i + 1))) none none).map fun v => (v, none)) = some (slS 0 ((i + 1) * 7) (n - (i + 1)) (c0x (n + x - n))) := by
    rw [slice_lo0 (by omega), cc_c0x]
  by_cases hend : i + 1 = n
  · have hS3 := slice_both (b := 0) (n := i) (c := c0x (n + x - i)) (l := n) hend.symm (by rw [spare_c0x]; omega)
    refine FRwp.pieceY c0_ok follows 1 _ _ _ _ (r69b L (L.take (i * 7) ++ L.drop ((i + 1) * 7) ++ z7) n (c0x x) i _ _ _ v13) (Met.cons h13 (Met.cons hne (Met.cons hS1 (Met.cons hS2 (Met.cons hS3 Met.nil))))) MetH.nil (MetE.cons ?_ (MetE.cons ?_ MetE.nil)) s69 rfl rfl (fixR iR) fun g => ⟨.inr rfl, rfl, _, _, (by rw [← hend]; rfl), q69 _ _ g, (by show (heapOf _ hp0).get 0 = _; rw [heapOf0_get]; rfl)⟩
    · obtain ⟨ii, hi', h7, h56⟩ := info34
      obtain ⟨z, hz, hzl⟩ := zero34
      have hsrc : aSrc Try.prog (hD L).get 7 z (.slice 34) (slS 0 ((i + 1) * 7) (n - (i + 1)) (c0x (n + x - n))) = some ([], 0) := by
        unfold aSrc
        simp only [slS, srcLen, srcCells]
        rw [show n - (i + 1) = 0 by omega, if_pos rfl]
        rfl
      unfold aAppend
      simp only [Try.underlying29, hi', hz, h7, h56, hzl]
      rw [if_neg (by decide)]
      simp only [hsrc]
      rw [if_neg (by simp)]
      simp only [slS]
      exact if_pos trivial
    · have hC : (L.drop (i * 7)).length = 7 := by rw [List.length_drop]; omega
      have := del_clear (get := (hD L).get) (A := L.take (i * 7)) (C := L.drop (i * 7)) (k := i) (c3 := cc (c0x (n + x - i)) i n) (by rw [g0, List.take_append_drop]) ht hC
      rw [this, List.drop_of_length_le (i := (i + 1) * 7) (by omega), List.append_nil]
  · obtain ⟨k, hk⟩ : ∃ k, n = i + 1 + k := ⟨n - (i + 1), by omega⟩
    have hk0 : 0 < k := by omega
    have ek : n - (i + 1) = k := by omega
    have en : n - 1 = i + k := by omega
    have eL : L = L.take (i * 7) ++ (L.drop (i * 7)).take (k * 7) ++ L.drop (i * 7 + k * 7) := by
      rw [List.append_assoc, ← List.drop_drop, List.take_append_drop, List.take_append_drop]
    have hB : ((L.drop (i * 7)).take (k * 7)).length = k * 7 := by rw [List.length_take, List.length_drop]; omega
    have hC : (L.drop (i * 7 + k * 7)).length = 7 := by rw [List.length_drop]; omega
    have hDl : (L.drop ((i + 1) * 7)).length = k * 7 := by rw [hd1, ek]
    have hg2 : getR L ((i + 1) * 7) (k * 7) = some (L.drop ((i + 1) * 7)) := by
      unfold getR
      rw [List.take_of_length_le (by omega), if_pos hDl]
    have happ := del_app (get := (hD L).get) (n := n) (y := n + x - i) (c2 := c0x (n + x - n)) g0 eL hg2 ht hB hDl (all_drop oL _) hk0 (by omega) (by omega)
    have hS3 := slice_both (b := 0) (n := i + k) (c := c0x (n + x - i - k)) (l := n) (by omega) (by rw [spare_c0x]; omega)
    have hS2' := hS2
    rw [ek] at hS2'
    have hr := r69a L (L.take (i * 7) ++ L.drop ((i + 1) * 7) ++ L.drop (i * 7 + k * 7)) (L.take (i * 7) ++ L.drop ((i + 1) * 7) ++ z7) n (c0x x) i (i + k) (c0x (n + x - i)) (c0x (n + x - n)) (cc (c0x (n + x - i - k)) (i + k) n) (c0x (n + x - i - k)) v13
    rw [ek] at hr
    refine FRwp.pieceY c0_ok follows 1 _ _ _ _ hr (Met.cons h13 (Met.cons hne (Met.cons hS1 (Met.cons hS2' (Met.cons hS3 Met.nil))))) MetH.nil (MetE.cons happ (MetE.cons ?_ MetE.nil)) s69 rfl rfl (fixR iR) fun g => ⟨.inr rfl, rfl, _, _, (by rw [en]), q69 _ _ g, (by show (heapOf _ hp0).get 0 = _; rw [heapOf0_get]; rfl)⟩
    exact del_clear (A := L.take (i * 7) ++ L.drop ((i + 1) * 7)) (C := L.drop (i * 7 + k * 7)) (k := i + k) (by rw [Hp.get_put, if_pos rfl]) (by rw [List.length_append, ht, hDl]; omega) hC

noncomputable def gDelF : HeapFn := fun args hp => match args with
  | [.slice (some ⟨b, 0, none⟩) n c, .int .i64 (.ofNat i), .int .i64 (.ofNat j)] => match hp.get b with
    | some (.cells ty L false) => match Nat.beq c 22 && Nat.beq ty 34 && Nat.beq L.length (n * 7) && Nat.beq j (i + 1) && Nat.blt i n && Nat.blt n 1000000 && L.all inert && L.all isOne with
      | true => some (slS hp.sz 0 (n - 1) 23, heapOf ([.cells 34 (L.take (i * 7) ++ L.drop ((i + 1) * 7) ++ z7) false] ++ [.dead]) (killL [b] hp))
      | false => none
    | _ => none
  | _ => none
def gDel : HeapFn := fun args hp => match args with
  | [.slice (some ⟨b, 0, none⟩) n c, .int .i64 (.ofNat i), .int .i64 (.ofNat j)] => match hp.get b with
    | some (.cells ty L false) => match Nat.beq c 22 && Nat.beq ty 34 && Nat.beq L.length (n * 7) && Nat.beq j (i + 1) && Nat.blt i n && Nat.blt n 1000000 && L.all inert && L.all isOne with
      | true => some (slS hp.sz 0 (n - 1) 23, heapOf ([.cells 34 (L.take (i * 7) ++ L.drop ((i + 1) * 7)) false] ++ [.dead]) (killL [b] hp))
      | false => none
    | _ => none
  | _ => none
theorem hk69F : CallGoal Try.prog 69 gDelF := kill_goal follows Try.func69 body69 (by kernel_rfl) fun args hp v hp' he hk => by
  unfold gDelF at he
  split at he
  case h_2 => cases he
  rename_i b n c i j
  split at he
  case h_2 => cases he
  rename_i ty L hb
  split at he
  case h_2 => cases he
  rename_i hcond
  cases he
  simp only [Bool.and_eq_true] at hcond
  obtain ⟨⟨⟨⟨⟨⟨⟨k0, k1⟩, k2⟩, k3⟩, k4⟩, k5⟩, iL⟩, oL⟩ := hcond
  have hc' := Nat.eq_of_beq_eq_true k0
  have hty := Nat.eq_of_beq_eq_true k1
  have hL := Nat.eq_of_beq_eq_true k2
  have hj := Nat.eq_of_beq_eq_true k3
  have hin : i < n := by simpa [Nat.blt_eq] using k4
  have hn : n < 1000000 := by simpa [Nat.blt_eq] using k5
  subst hc' hty hj
  refine ⟨[b], [.cells 34 (L.take (i * 7) ++ L.drop ((i + 1) * 7) ++ z7) false], rfl, fun b' hb' => ?_, fun m h w args' s ra => ?_⟩
  · have : b' = b := by simpa using hb'
    subst this
    exact ⟨_, hb, rfl⟩
  obtain ⟨v1, bs1, e1, r1, ra1⟩ := ra.of_cons
  obtain ⟨v2, bs2, e2, r2, ra2⟩ := ra1.of_cons
  obtain ⟨v3, bs3, e3, r3, ra3⟩ := ra2.of_cons
  have e4 := ra3.of_nil
  subst e4
  obtain ⟨_, _, rr, oo, cap, q1, rfl, hcap, hh⟩ := r1.of_slice0
  cases q1
  have ev2 := r2.of_int
  subst ev2
  have ev3 := r3.of_int
  subst ev3
  have ea : args'.toList = [.slice (some ⟨rr, oo, none⟩) n cap, .int .i64 (.ofNat i), .int .i64 (.ofNat (i + 1))] := by rw [e1, e2, e3]
  have gb := ovr_sub hk h b _ hb
  rcases hh with hd | ⟨δ, E, hm, hoff, hcok⟩
  · rw [gb] at hd; cases hd
  refine ⟨fun b' hb' => ?_, ?_⟩
  · have : b' = b := by simpa using hb'
    subst this
    exact ⟨_, hm⟩
  have hle := hcap.1
  have iR : (L.take (i * 7) ++ L.drop ((i + 1) * 7) ++ z7).all inert = true := by rw [List.all_append, List.all_append, all_take iL, all_drop iL, z7_inert]; rfl
  have hcx : cap = n + c0x (cap - n) / 3 / 1000000 := by rw [c0x_sp]; omega
  refine ⟨[0], [slS 0 0 n (c0x (cap - n)), iN i, iN (i + 1)], heapOf [.cells 34 L false, .dead] hp0, canM m [b], rfl, rfl, heapOf_ok _ _ hp0_ok, start1_sim s hk hb iL hm, fun b' x hx _ => ?_, ?_, by rw [ntmps69]; simp, fun W => ?_⟩
  · unfold canM at hx
    match b' with
    | 0 => exact ⟨b, by simp, x, hx, rfl⟩
    | b' + 1 => simp at hx
  · rw [ea]
    refine .cons (.slice ⟨hle, fun _ => hcx⟩ (.inr ⟨δ, E, hm, hoff, fun _ => hcx, fun h => ?_⟩)) (.cons (.flat rfl) (.cons (.flat rfl) .nil))
    rw [c0x_mod] at h; cases h
  · rw [ntmps69]
    refine FRwp.mono (del_fr hL iL oL hn hin) fun e st q => ?_
    obtain ⟨p1, p2, c1, v0, rfl, p3, p4⟩ := q
    refine ⟨p1, p2, _, p3, rfl, fun b' hb' => ?_, fun m h x hx => ?_, ?_⟩
    · have : b' = 0 := by simpa using hb'
      subst this
      exact ⟨_, p4, ok2_inert iR, rfl⟩
    · have : sh3 [0] hp.sz (slS 0 0 (n - 1) c1) = slS hp.sz 0 (n - 1) c1 := by simp [sh3, sh2, sh1, rho, idxOf, slS]
      rw [this] at hx
      exact slS_weak hx
    · have hI : inertB (.cells 34 (L.take (i * 7) ++ L.drop ((i + 1) * 7) ++ z7) false) = true := iR
      simp only [outOf, List.map_cons, List.map_nil, p4, Option.getD_some, inert_shBlk hI]
theorem hk69 : CallGoal Try.prog 69 gDel := cut_goal hk69F fun args hp v hp2 he hk => by
  unfold gDel at he
  split at he
  case h_2 => cases he
  rename_i b n c i j
  split at he
  case h_2 => cases he
  rename_i ty L hb
  split at he
  case h_2 => cases he
  rename_i hcond
  cases he
  have hkk : (killL [b] hp).ok := killL_ok hk fun b' hb' => by
    have : b' = b := by simpa using hb'
    subst this
    exact lt_of_get hk hb
  refine ⟨heapOf ([.cells 34 (L.take (i * 7) ++ L.drop ((i + 1) * 7) ++ z7) false] ++ [.dead]) (killL [b] hp), ?_, heapOf_ok _ _ hkk, rfl, fun b' => ?_⟩
  · unfold gDelF
    simp only [hb, hcond]
  · by_cases h1 : b' = hp.sz
    · subst h1
      refine .inr ⟨Nat.le_refl _, by rw [heapOf_sz, killL_sz]; simp, 34, L.take (i * 7) ++ L.drop ((i + 1) * 7), z7, ?_, ?_⟩
      · rw [heapOf_get, killL_sz, if_neg (by omega), Nat.sub_self]; rfl
      · rw [heapOf_get, killL_sz, if_neg (by omega), Nat.sub_self]; rfl
    · refine .inl ?_
      rw [heapOf_get, heapOf_get, killL_sz]
      by_cases h2 : b' < hp.sz
      · rw [if_pos h2, if_pos h2]
      · rw [if_neg h2, if_neg h2]
        obtain ⟨d, hd⟩ : ∃ d, b' - hp.sz = d + 1 := ⟨b' - hp.sz - 1, by omega⟩
        rw [hd]
        rfl
end Go.Proofs.Ytiogdklmhpllfaa.LtA
namespace Go.Proofs.Ytiogdklmhpllfaa.LtA
open Go Go.Proofs Go.Proofs.Ytiogdklmhpllfaa.AI Go.RowKit

noncomputable def E41 (vs : List ViewV) : Ext := extG (extH Try.prog []) [(18, g18 vs), (61, g61 vs), (62, g62 vs), (69, gDel)]
theorem E41_ok (vs : List ViewV) (hn : vs.length < 1000000) (hs : Rises vs) : ExtOk Try.prog (E41 vs) := extG_ok (extH_ok .nil) (.cons (hk18 vs hn) (.cons (hk61 vs hn) (.cons (hk62 vs hn hs) (.cons hk69 .nil))))
noncomputable def c41 (vs : List ViewV) : CallF := aCall Try.prog (E41 vs) 5
noncomputable def E41b (vs : List ViewV) : Ext := extG (extH Try.prog []) [(18, g18 vs)]
theorem E41b_ok (vs : List ViewV) (hn : vs.length < 1000000) : ExtOk Try.prog (E41b vs) := extG_ok (extH_ok .nil) (.cons (hk18 vs hn) .nil)
noncomputable def c41b (vs : List ViewV) : CallF := aCall Try.prog (E41b vs) 5
noncomputable def c41n : CallF := aCall Try.prog (extH Try.prog []) 60
theorem c41n_ok : CallOk Try.prog c41n := aCall_sound (extH_ok .nil) follows 60
noncomputable def fb41 : Code := (Try.f41.body).getD .skip
theorem body41 : Try.f41.body = some fb41 := by kernel_rfl
theorem ntmps41 : Try.f41.ntmps = 28 := by kernel_rfl
theorem s41 : codeSafe Try.prog 28 fb41 = true := by kernel_rfl
theorem q41 (v u : Value) (O : List Blk) (g : Nat → Value) : retVal Try.prog Try.f41 (stOf 28 g [(4, v), (5, u)] O) = some (.tuple #[v, u]) := by kernel_rfl
def hd0 (o : Blk) : Hp := heapOf [o, .dead] hp0
def hd1 (o : Blk) : Hp := heapOf [.dead] (hd0 o)
def hd2 (o : Blk) : Hp := heapOf [.dead] (hd1 o)
def hd3 (vs : List ViewV) (o : Blk) : Hp := heapOf [rowB vs, .dead] (hd2 o)
section
variable (vs us : List ViewV) (o : Blk) (n n1 c p : Nat) (id : Int)
abbrev B41 : St := ⟨tmsOf [rowS 0 n c, .int .i64 id] 0 .leaf, heapOf [o, .dead] hp0, []⟩
theorem r41a : (execE Try.prog (c41b vs) [] [(10, iN 1, [.dead])] [] 40 fb41 (B41 o n c id)).map (fun z => (look2 0 [] [4, 5] (z.1, z.2.1), z.2.2)) =
    some ((.ret, [], [(4, nilS), (5, iN 1)], true), [], [(c41b vs 18 [rowS 0 n c] (hd0 o), (iN 1, hd1 o))], []) := by kernel_rfl
theorem r41b : (execE Try.prog (c41 vs) [] [(10, iN 0, [.dead]), (17, .tuple #[iN p, .bool false], [.dead])] [] 40 fb41 (B41 o n c id)).map (fun z => (look2 0 [] [4, 5] (z.1, z.2.1), z.2.2)) =
    some ((.ret, [], [(4, nilS), (5, iN 7)], true), [], [(c41 vs 18 [rowS 0 n c] (hd0 o), (iN 0, hd1 o)), (c41 vs 62 [rowS 0 n c, .int .i64 id] (hd1 o), (.tuple #[iN p, .bool false], hd2 o))], []) := by kernel_rfl
theorem r41c : (execE Try.prog (c41 vs) [(26, iN (p + 1))] [(10, iN 0, [.dead]), (17, .tuple #[iN p, .bool true], [.dead]), (23, newS 4 n, [rowB vs, .dead])] [(27, slS 6 0 n1 23, [.put 4 .dead, .push (rowB us), .push .dead])] 40 fb41 (B41 o n c id)).map (fun z => (look2 1 [6] [4, 5] (z.1, z.2.1), z.2.2)) =
    some ((.ret, [rowB us], [(4, rowS 0 n1 23), (5, iN 0)], true), [(some (.int .i64 (wrapF .i64 (Int.ofNat p + 1))), iN (p + 1))],
      [(c41 vs 18 [rowS 0 n c] (hd0 o), (iN 0, hd1 o)), (c41 vs 62 [rowS 0 n c, .int .i64 id] (hd1 o), (.tuple #[iN p, .bool true], hd2 o)), (c41 vs 61 [rowS 0 n c] (hd2 o), (newS 4 n, hd3 vs o)),
       (c41 vs 69 [newS 4 n, iN p, iN (p + 1)] (hd3 vs o), (slS 6 0 n1 23, heapOf [rowB us, .dead] (killL [4] (hd3 vs o))))], []) := by kernel_rfl
theorem r41n : (execE Try.prog c41n [] [] [] 40 fb41 ⟨tmsOf [nilS, .int .i64 id] 0 .leaf, heapOf [.dead] hp0, []⟩).map (fun z => (look2 0 [] [4, 5] (z.1, z.2.1), z.2.2)) =
    some ((.ret, [], [(4, nilS), (5, iN 7)], true), [], [], []) := by kernel_rfl
end
def dropV (vs : List ViewV) (id : Int) : List ViewV := vs.eraseIdx (pos vs id)
theorem dropV_len {vs : List ViewV} {id : Int} (h : fnd vs id = true) : (dropV vs id).length = vs.length - 1 := by
  obtain ⟨x, hx, -⟩ := fnd_some h
  unfold dropV
  rw [List.length_eraseIdx, if_pos (List.getElem?_eq_some_iff.1 hx).1]
/-- slices.Delete at a row of views. -/
theorem gDel_row {hp : Hp} {b n p : Nat} {vs : List ViewV} (hb : hp.get b = some (rowB vs)) (hn : n = vs.length) (hp' : p < n) (hl : n < 1000000) :
    gDel [newS b n, iN p, iN (p + 1)] hp = some (slS hp.sz 0 (n - 1) 23, heapOf ([rowB (vs.eraseIdx p)] ++ [.dead]) (killL [b] hp)) := by
  subst hn
  unfold rowB at hb
  have hcond : (Nat.beq 22 22 && Nat.beq 34 34 && Nat.beq (vrow vs).length (vs.length * 7) && Nat.beq (p + 1) (p + 1) && Nat.blt p vs.length && Nat.blt vs.length 1000000 && (vrow vs).all inert && (vrow vs).all isOne) = true := by
    rw [vrow_len, vrow_inert, vrow_one]
    simp only [Nat.beq_refl, Bool.true_and, Bool.and_true]
    rw [show Nat.blt p vs.length = true by simpa [Nat.blt_eq] using hp', show Nat.blt vs.length 1000000 = true by simpa [Nat.blt_eq] using hl]
    rfl
  unfold gDel newS iN
  simp only [rowS, hb, hcond]
  congr 3
  unfold rowB
  rw [vrow_take (by omega), vrow_drop (by omega), ← vrow_append, List.eraseIdx_eq_take_drop_succ]
section
variable {vs : List ViewV} {s : Value} {hp : Hp}
theorem c41b_18 (h : TR vs s hp) : c41b vs 18 [s] hp = some (errI (rightB vs), heapOf [.dead] hp) := by
  show aCall Try.prog (E41b vs) 5 18 _ _ = _
  rw [aCall]
  have hE : E41b vs 18 = some fun _ args h => g18 vs args h := rfl
  rw [hE]
  exact g18_of (.inr h)
theorem c41_18 (h : TR vs s hp) : c41 vs 18 [s] hp = some (errI (rightB vs), heapOf [.dead] hp) := by
  show aCall Try.prog (E41 vs) 5 18 _ _ = _
  rw [aCall]
  have hE : E41 vs 18 = some fun _ args h => g18 vs args h := rfl
  rw [hE]
  exact g18_of (.inr h)
theorem c41_61 {b c : Nat} {o : Blk} (hb : hp.get b = some o) (hi : inertB o = true) (hr : vs = [] ∨ ∃ ty ro, o = .cells ty (vrow vs) ro) : c41 vs 61 [rowS b vs.length c] hp = some (newS hp.sz vs.length, heapOf [rowB vs, .dead] hp) := by
  show aCall Try.prog (E41 vs) 5 61 _ _ = _
  rw [aCall]
  have hE : E41 vs 61 = some fun _ args h => g61 vs args h := rfl
  rw [hE]
  exact g61_row hb hi hr
open Classical in
theorem c41_62 {id : Int} (h : TR vs s hp) : c41 vs 62 [s, .int .i64 id] hp = some (.tuple #[iN (pos vs id), .bool (fnd vs id)], heapOf [.dead] hp) := by
  show aCall Try.prog (E41 vs) 5 62 _ _ = _
  rw [aCall]
  have hE : E41 vs 62 = some fun _ args h => g62 vs args h := rfl
  rw [hE]
  show (if TR vs s hp then _ else _) = _
  rw [if_pos h]
  rfl
theorem c41_69 (args : List Value) : c41 vs 69 args hp = gDel args hp := by
  show aCall Try.prog (E41 vs) 5 69 _ _ = _
  rw [aCall]
  rfl
end
/-- What Drop's own frame ends with. -/
def EndsP (vs : List ViewV) (id : Int) (e : Exit) (st : St) : Prop :=
  e = .ret ∧ ((rightB vs && fnd vs id) = true ∧ (∃ g, st = stOf 28 g [(4, rowS 0 (dropV vs id).length 23), (5, iN 0)] [rowB (dropV vs id)]) ∨ (rightB vs && fnd vs id) = false ∧ ∃ g, st = stOf 28 g [(4, nilS), (5, iN (bif rightB vs then 7 else 1))] [])
theorem drop_fr (o : Blk) (ho : inertB o = true) (vs : List ViewV) (hn : vs.length < 1000000) (hrow : vs = [] ∨ ∃ ty ro, o = .cells ty (vrow vs) ro) (c : Nat) (id : Int) (W : Base) :
    FRwp Try.prog 28 W fb41 (B41 o vs.length c id) (EndsP vs id) := by
  have g0 : (hd0 o).get 0 = some o := by unfold hd0; rw [heapOf0_get]; rfl
  have k0 : (hd0 o).ok := heapOf_ok _ _ hp0_ok
  have k1 : (hd1 o).ok := heapOf_ok _ _ k0
  have k2 : (hd2 o).ok := heapOf_ok _ _ k1
  have hT0 : TR vs (rowS 0 vs.length c) (hd0 o) := ⟨0, c, o, rfl, g0, ho, hrow⟩
  have hT1 : TR vs (rowS 0 vs.length c) (hd1 o) := hT0.ext k0 _
  have hT2 : (hd2 o).get 0 = some o := get_old k1 (get_old k0 g0)
  cases hr : rightB vs with
  | false =>
    have k := c41b_18 hT0
    rw [hr] at k
    exact FRwp.pieceY (aCall_sound (E41b_ok vs hn) follows 5) follows 0 _ _ _ _ (r41a vs o vs.length c id) Met.nil (MetH.cons k MetH.nil) MetE.nil s41 rfl rfl (noFix _) fun g => ⟨rfl, .inr ⟨by rw [hr]; rfl, g, by rw [hr]; rfl⟩⟩
  | true =>
    have hc : CallOk Try.prog (c41 vs) := aCall_sound (E41_ok vs hn (rises_of vs hr)) follows 5
    have a1 := c41_18 hT0
    rw [hr] at a1
    have a2 := c41_62 (id := id) hT1
    cases hf : fnd vs id with
    | false =>
      rw [hf] at a2
      exact FRwp.pieceY hc follows 0 _ _ _ _ (r41b vs o vs.length c (pos vs id) id) Met.nil (MetH.cons a1 (MetH.cons a2 MetH.nil)) MetE.nil s41 rfl rfl (noFix _) fun g => ⟨rfl, .inr ⟨by rw [hr, hf]; rfl, g, by rw [hr]; rfl⟩⟩
    | true =>
      rw [hf] at a2
      obtain ⟨x, hx, -⟩ := fnd_some hf
      have hlt : pos vs id < vs.length := (List.getElem?_eq_some_iff.1 hx).1
      have a3 := c41_61 (vs := vs) (c := c) hT2 ho hrow
      have z2 : (hd2 o).sz = 4 := rfl
      have z3 : (hd3 vs o).sz = 6 := rfl
      have g4 : (hd3 vs o).get 4 = some (rowB vs) := by unfold hd3; rw [heapOf_get, z2, if_neg (by omega)]; rfl
      have a4 : c41 vs 69 [newS 4 vs.length, iN (pos vs id), iN (pos vs id + 1)] (hd3 vs o) = some (slS 6 0 (vs.length - 1) 23, heapOf [rowB (dropV vs id), .dead] (killL [4] (hd3 vs o))) := by
        rw [c41_69]
        exact gDel_row g4 rfl hlt hn
      refine FRwp.pieceY hc follows 1 _ _ _ _ (r41c vs (dropV vs id) o vs.length (vs.length - 1) c (pos vs id) id) (Met.cons (wrap_up (by omega)) Met.nil) (MetH.cons a1 (MetH.cons a2 (MetH.cons a3 (MetH.cons a4 MetH.nil)))) MetE.nil s41 rfl rfl (fix1 _ []) fun g => ⟨rfl, .inl ⟨by rw [hr, hf]; rfl, g, ?_⟩⟩
      rw [dropV_len hf]
theorem drop_nil (id : Int) (W : Base) : FRwp Try.prog 28 W fb41 ⟨tmsOf [nilS, .int .i64 id] 0 .leaf, heapOf [.dead] hp0, []⟩ (EndsP [] id) :=
  FRwp.pieceY c41n_ok follows 0 _ _ _ _ (r41n id) Met.nil MetH.nil MetE.nil s41 rfl rfl (noFix _) fun g => ⟨rfl, .inr ⟨rfl, g, rfl⟩⟩
open Classical in
noncomputable def g41 (vs : List ViewV) : HeapFn := fun args hp => match args with
  | [s, .int .i64 id] => if TN vs s hp then (match rightB vs && fnd vs id with
      | true => some (.tuple #[rowS hp.sz (dropV vs id).length 23, iN 0], heapOf ([rowB (dropV vs id)] ++ [.dead]) hp)
      | false => some (.tuple #[nilS, iN (bif rightB vs then 7 else 1)], heapOf ([] ++ [.dead]) hp)) else none
  | _ => none
theorem hk41 (vs : List ViewV) (hn : vs.length < 1000000) : CallGoal Try.prog 41 (g41 vs) := scan_goal follows Try.func41 body41 (by kernel_rfl) fun args hp v hp' h hk => by
  unfold g41 at h
  rw [ntmps41]
  split at h
  case h_2 => cases h
  rename_i s id
  split at h
  case isFalse => cases h
  rename_i hT
  have okB : ∀ {st : St} (us : List ViewV), st.hp.get 0 = some (rowB us) → ∀ b ∈ [0], ∃ o, st.hp.get b = some o ∧ okBlk o = true ∧ rwB o = true := fun us hg b' hb' => by
    have : b' = 0 := by simpa using hb'
    subst this
    exact ⟨_, hg, ok2_inert (row_block _), rfl⟩
  have run : ∃ (K0 : List Nat), nodupB K0 = true ∧ (∀ b ∈ K0, ∃ o, hp.get b = some o ∧ startOk o = true) ∧ ([s, .int .i64 id]).all ok3 = true ∧ ∀ W, FRwp Try.prog 28 W fb41 ⟨tmsOf ([s, .int .i64 id].map (sh3 K0 0)) 0 .leaf, startHp K0 hp, []⟩ (EndsP vs id) := by
    rcases hT with ⟨rfl, rfl⟩ | ⟨b, c, ob, rfl, hb, hi, hr⟩
    · refine ⟨[], rfl, (fun b hb => by cases hb), rfl, fun W => ?_⟩
      have e1 : [nilS, .int .i64 id].map (sh3 [] 0) = [nilS, .int .i64 id] := by simp [sh3, sh2, sh1, nilS]
      rw [e1]
      exact drop_nil id W
    · refine ⟨[b], rfl, fun b' hb' => ?_, rfl, fun W => ?_⟩
      · have : b' = b := by simpa using hb'
        subst this
        exact ⟨ob, hb, inert_start hi⟩
      · have e1 : [rowS b vs.length c, .int .i64 id].map (sh3 [b] 0) = [rowS 0 vs.length c, .int .i64 id] := by simp [sh3, sh2, sh1, rho, idxOf, rowS]
        rw [e1, start1 hb hi]
        exact drop_fr (roBlk ob) (ro_inert hi) vs hn (ro_row hr) c id W
  obtain ⟨K0, n0, hst, hall, hrun⟩ := run
  split at h
  · rename_i hro
    cases h
    refine ⟨K0, [0], [rowB (dropV vs id)], rfl, rfl, n0, rfl, hst, hall, (by simp), fun W => FRwp.mono (hrun W) fun e st q => ?_⟩
    obtain ⟨rfl, ⟨-, g, rfl⟩ | ⟨h2, -⟩⟩ := q
    · have hg := row_fin (N := 28) (us := dropV vs id) (v := nilS) (t := 0) (L := [(4, rowS 0 (dropV vs id).length 23), (5, iN 0)]) (g := g)
      refine ⟨.inr rfl, rfl, _, q41 _ _ _ g, rfl, okB _ hg, ?_, out_row hg⟩
      simp [sh3, sh2, sh1, rho, idxOf, rowS, iN]
    · rw [h2] at hro; cases hro
  · rename_i hro
    cases h
    refine ⟨K0, [], [], rfl, rfl, n0, rfl, hst, hall, (by simp), fun W => FRwp.mono (hrun W) fun e st q => ?_⟩
    obtain ⟨rfl, ⟨h2, -⟩ | ⟨-, g, rfl⟩⟩ := q
    · rw [h2] at hro; cases hro
    · exact ⟨.inr rfl, rfl, _, q41 _ _ _ g, rfl, (fun b hb => by cases hb), by simp [sh3, sh2, sh1, nilS, iN], rfl⟩
noncomputable def G41 : HeapFn := atRow (fun _ => True) g41
theorem hkG41 : CallGoal Try.prog 41 G41 := atRow_goal fun vs hn _ => hk41 vs hn
open Classical in
theorem G41_of {vs : List ViewV} {s : Value} {hp : Hp} {id : Int} (h : TN vs s hp) (hn : vs.length < 1000000) : G41 [s, .int .i64 id] hp = match rightB vs && fnd vs id with
      | true => some (.tuple #[rowS hp.sz (dropV vs id).length 23, iN 0], heapOf [rowB (dropV vs id), .dead] hp)
      | false => some (.tuple #[nilS, iN (bif rightB vs then 7 else 1)], heapOf [.dead] hp) := by
  unfold G41
  rw [atRow_of h hn trivial]
  show (if TN vs s hp then _ else _) = _
  rw [if_pos h]
  cases (rightB vs && fnd vs id) <;> rfl
end Go.Proofs.Ytiogdklmhpllfaa.LtA
namespace Go.Proofs.Ytiogdklmhpllfaa.LtA
open Go Go.Proofs Go.Proofs.Ytiogdklmhpllfaa.AI Go.RowKit

noncomputable def G18 : HeapFn := atRow (fun _ => True) g18
theorem hkG18 : CallGoal Try.prog 18 G18 := atRow_goal fun vs hn _ => hk18 vs hn
theorem G18_of {vs : List ViewV} {s : Value} {hp : Hp} (h : TN vs s hp) (hn : vs.length < 1000000) : G18 [s] hp = some (errI (rightB vs), heapOf [.dead] hp) := by
  unfold G18
  rw [atRow_of h hn trivial]
  exact g18_of h
noncomputable def EK : Ext := extG (extH Try.prog [(26, gAwake12)]) [(27, G27), (41, G41), (33, G33), (18, G18)]
theorem EK_ok : ExtOk Try.prog EK := extG_ok (extH_ok (.cons hkA12 .nil)) (.cons hkG27 (.cons hkG41 (.cons hkG33 (.cons hkG18 .nil))))
noncomputable def cK : CallF := aCall Try.prog EK 5
theorem cK_ok : CallOk Try.prog cK := aCall_sound EK_ok follows 5
noncomputable def fb11 : Code := (Try.f11.body).getD .skip
theorem body11 : Try.f11.body = some fb11 := by kernel_rfl
theorem ntmps11 : Try.f11.ntmps = 133 := by kernel_rfl
theorem s11 : codeSafe Try.prog 133 fb11 = true := by kernel_rfl
theorem q11 (v : Value) (O : List Blk) (g : Nat → Value) : retVal Try.prog Try.f11 (stOf 133 g [(8, v)] O) = some v := by kernel_rfl
def hk0 (o : Blk) (y : ViewV) : Hp := heapOf [o, .dead, .cells 23 (hcL y) false] hp0
section
variable (xs ds : List ViewV) (o : Blk) (s : Value) (n : Nat) (y : ViewV) (oth : Int)
abbrev B11 : St := ⟨tmsOf [s, .int .i64 y.id, .int .i64 oth, hcA y] 0 .leaf, heapOf [o, .dead] hp0, []⟩
theorem r11a : (execE Try.prog cK [(24, iN n), (25, .bool true)] [] [] 40 fb11 (B11 o s y oth)).map (fun w => (look2 0 [] [8] (w.1, w.2.1), w.2.2)) =
    some ((.ret, [], [(8, .bool true)], true), [lenO s n, (some (.bool (decide (Int.ofNat n > 100))), .bool true)], [], []) := by kernel_rfl
theorem r11b : (execE Try.prog cK [(24, iN n), (25, .bool false), (29, .bool true)] [] [] 40 fb11 (B11 o s y oth)).map (fun w => (look2 0 [] [8] (w.1, w.2.1), w.2.2)) =
    some ((.ret, [], [(8, .bool true)], true), [lenO s n, (some (.bool (decide (Int.ofNat n > 100))), .bool false), (some (.bool (y.id == oth)), .bool true)], [], []) := by kernel_rfl
noncomputable def beg11 : List Obl := [lenO s n, (some (.bool (decide (Int.ofNat n > 100))), .bool false), (some (.bool (y.id == oth)), .bool false)]
theorem r11c : (execE Try.prog cK [(24, iN n), (25, .bool false), (29, .bool false)] [(36, .tuple #[nilS, iN 1], [.dead])] [] 40 fb11 (B11 o s y oth)).map (fun w => (look2 0 [] [8] (w.1, w.2.1), w.2.2)) =
    some ((.ret, [], [(8, .bool true)], true), beg11 s n y oth, [(cK 27 [s, .int .i64 y.id, hcA y] (hk0 o y), (.tuple #[nilS, iN 1], heapOf [.dead] (hk0 o y)))], []) := by kernel_rfl
noncomputable def hk1 (xs : List ViewV) (o : Blk) (y : ViewV) : Hp := heapOf (rw2 xs) (hk0 o y)
noncomputable def hk2 (ds xs : List ViewV) (o : Blk) (y : ViewV) : Hp := heapOf (rw2 ds) (hk1 xs o y)
/-- Behind a Get: its answer lies in a variable. -/
noncomputable def hkG (x : ViewV) (hp : Hp) : Hp := heapOf [.dead, hB x] hp
def gT (a : ViewV) (b : Bool) : Value := .tuple #[hcA a, .bool b]
theorem r11d (n1 k1 n2 : Nat) (a : ViewV) (b : Bool) : (execE Try.prog cK [(24, iN n), (25, .bool false), (29, .bool false), (96, .bool true), (104, .bool true), (109, .bool true), (114, .bool true), (119, .bool true), (128, iN (n2 + 1)), (131, .bool true)]
      [(36, tupS 3 n1 k1, rw2 xs), (50, tupS 5 n2 23, rw2 ds), (56, gT y true, [.dead]), (62, gT a b, [.dead]), (68, gT a b, [.dead]), (74, gT a b, [.dead]), (80, gT (zeroV 0) false, [.dead]), (86, iN 0, [.dead])] [] 60 fb11 (B11 o s y oth)).map (fun w => (look2 0 [] [8] (w.1, w.2.1), w.2.2)) =
    some ((.ret, [], [(8, .bool true)], true), beg11 s n y oth ++ [(fstV ((aBin Try.prog .eql 23 (hcA y) (hcA y)).map fun v => (v, none)), .bool true), (fstV ((aBin Try.prog .eql 23 (hcA a) (hcA a)).map fun v => (v, none)), .bool true), (some (.bool (b == b)), .bool true),
        (fstV ((aBin Try.prog .eql 23 (hcA a) (hcA a)).map fun v => (v, none)), .bool true), (some (.bool (b == b)), .bool true), (some (.int .i64 (wrapF .i64 (Int.ofNat n2 + 1))), iN (n2 + 1)), (some (.bool (Int.ofNat (n2 + 1) == Int.ofNat n1)), .bool true)],
      [(cK 27 [s, .int .i64 y.id, hcA y] (hk0 o y), (tupS 3 n1 k1, hk1 xs o y)), (cK 41 [rowS 3 n1 k1, .int .i64 y.id] (hk1 xs o y), (tupS 5 n2 23, hk2 ds xs o y)),
       (cK 33 [rowS 3 n1 k1, .int .i64 y.id] (hk2 ds xs o y), (gT y true, heapOf [.dead] (hk2 ds xs o y))),
       (cK 33 [s, .int .i64 oth] (hkG y (hk2 ds xs o y)), (gT a b, heapOf [.dead] (hkG y (hk2 ds xs o y)))),
       (cK 33 [rowS 3 n1 k1, .int .i64 oth] (hkG a (hkG y (hk2 ds xs o y))), (gT a b, heapOf [.dead] (hkG a (hkG y (hk2 ds xs o y))))),
       (cK 33 [rowS 5 n2 23, .int .i64 oth] (hkG a (hkG a (hkG y (hk2 ds xs o y)))), (gT a b, heapOf [.dead] (hkG a (hkG a (hkG y (hk2 ds xs o y)))))),
       (cK 33 [rowS 5 n2 23, .int .i64 y.id] (hkG a (hkG a (hkG a (hkG y (hk2 ds xs o y))))), (gT (zeroV 0) false, heapOf [.dead] (hkG a (hkG a (hkG a (hkG y (hk2 ds xs o y))))))),
       (cK 18 [rowS 3 n1 k1] (hkG (zeroV 0) (hkG a (hkG a (hkG a (hkG y (hk2 ds xs o y)))))), (iN 0, heapOf [.dead] (hkG (zeroV 0) (hkG a (hkG a (hkG a (hkG y (hk2 ds xs o y))))))))], []) := by kernel_rfl
end
/-! ### Plain facts -/
theorem find_mem {vs : List ViewV} {id : Int} {x : ViewV} (h : Up vs) : findV vs id = some x ↔ x ∈ vs ∧ x.id = id := by
  constructor
  · intro hf
    exact ⟨List.mem_of_find?_eq_some hf, by have := List.find?_some hf; simpa [isId] using this⟩
  · rintro ⟨hm, hid⟩
    obtain ⟨i, hi⟩ := List.mem_iff_getElem?.1 hm
    refine find_at hi (by simp [isId, hid]) fun j z hj hz => ?_
    have := rises_up.2 h j i z x hj hz hi
    simp [isId]; omega
theorem find_ext {us vs : List ViewV} {id : Int} (hu : Up us) (hv : Up vs) (h : ∀ x, x.id = id → (x ∈ us ↔ x ∈ vs)) : findV us id = findV vs id := by
  cases e : findV us id with
  | some x =>
    obtain ⟨h1, h2⟩ := (find_mem hu).1 e
    exact ((find_mem hv).2 ⟨(h x h2).1 h1, h2⟩).symm
  | none =>
    cases e2 : findV vs id with
    | none => rfl
    | some x =>
      obtain ⟨h1, h2⟩ := (find_mem hv).1 e2
      rw [(find_mem hu).2 ⟨(h x h2).2 h1, h2⟩] at e; cases e
theorem fnd_mem {vs : List ViewV} {x : ViewV} (h : Up vs) (hm : x ∈ vs) : fnd vs x.id = true ∧ vs[pos vs x.id]? = some x := by
  obtain ⟨i, hi⟩ := List.mem_iff_getElem?.1 hm
  have hr := rises_up.2 h
  have hlt := (List.getElem?_eq_some_iff.1 hi).1
  have hp : pos vs x.id = i := take_len_of (by omega) (fun k z hk hz => by have := hr k i z x hk hz hi; exact decide_eq_true this) (fun z hz => by rw [hi] at hz; cases hz; exact decide_eq_false (by omega))
  refine ⟨?_, by rw [hp]; exact hi⟩
  unfold fnd
  rw [hp, hi]; simp
theorem mem_dropV {vs : List ViewV} {x z : ViewV} (h : Up vs) (hm : x ∈ vs) : z ∈ dropV vs x.id ↔ z ∈ vs ∧ z.id ≠ x.id := by
  obtain ⟨-, hp⟩ := fnd_mem h hm
  have hr := rises_up.2 h
  unfold dropV
  rw [List.mem_eraseIdx_iff_getElem?]
  constructor
  · rintro ⟨i, hne, hi⟩
    refine ⟨List.mem_of_getElem? hi, ?_⟩
    rcases Nat.lt_or_gt_of_ne hne with q | q
    · have := hr _ _ _ _ q hi hp; omega
    · have := hr _ _ _ _ q hp hi; omega
  · rintro ⟨hz, hne⟩
    obtain ⟨i, hi⟩ := List.mem_iff_getElem?.1 hz
    exact ⟨i, (by rintro rfl; rw [hp] at hi; cases hi; exact hne rfl), hi⟩
theorem dropV_up {vs : List ViewV} {id : Int} (h : Up vs) : Up (dropV vs id) := h.sublist (List.eraseIdx_sublist _ _)
theorem same_self (x : ViewV) : same23 x.n x.t x.o x.r x.d x.i x.n x.t x.o x.r x.d x.i = true := by unfold same23; simp
theorem eql23_self (x : ViewV) : fstV ((aBin Try.prog .eql 23 (hcA x) (hcA x)).map fun v => (v, none)) = some (.bool true) := by
  have h : aBin Try.prog .eql 23 (hcA x) (hcA x) = (andE (x.n == x.n) (andE (x.t == x.t) (andE (x.o == x.o) (andE (x.r == x.r) (andE (x.d == x.d) (andE (x.i == x.i) (some true))))))).map .bool := by kernel_rfl
  rw [h]
  simp [andE_some, fstV]
/-! ### What is owed -/
section
variable {vs : List ViewV} {s : Value} {hp : Hp}
theorem cK_27 (y : ViewV) (h : TN vs s hp) (hn : vs.length < 1000000) : cK 27 [s, .int .i64 y.id, hcA y] hp = match rightB vs && oneV y with
    | true => some (.tuple #[rowS hp.sz (setV vs y).length (setC s vs y.id), iN 0], heapOf [rowB (setV vs y), .dead] hp)
    | false => some (.tuple #[nilS, iN 1], heapOf [.dead] hp) := by
  show aCall Try.prog EK 5 27 _ _ = _
  rw [aCall]
  have hE : EK 27 = some fun _ args h => G27 args h := rfl
  rw [hE]
  show G27 _ hp = _
  unfold G27
  rw [atRow_of h hn trivial, g27_of y h]
  cases (rightB vs && oneV y) <;> rfl
theorem cK_41 {id : Int} (h : TN vs s hp) (hn : vs.length < 1000000) : cK 41 [s, .int .i64 id] hp = match rightB vs && fnd vs id with
      | true => some (.tuple #[rowS hp.sz (dropV vs id).length 23, iN 0], heapOf [rowB (dropV vs id), .dead] hp)
      | false => some (.tuple #[nilS, iN (bif rightB vs then 7 else 1)], heapOf [.dead] hp) := by
  show aCall Try.prog EK 5 41 _ _ = _
  rw [aCall]
  have hE : EK 41 = some fun _ args h => G41 args h := rfl
  rw [hE]
  exact G41_of h hn
theorem cK_33 {id : Int} (h : TN vs s hp) (hn : vs.length < 1000000) : cK 33 [s, .int .i64 id] hp = some (getV vs id, heapOf [.dead] hp) := by
  show aCall Try.prog EK 5 33 _ _ = _
  rw [aCall]
  have hE : EK 33 = some fun _ args h => G33 args h := rfl
  rw [hE]
  exact G33_of h.tq hn
theorem cK_18 (h : TN vs s hp) (hn : vs.length < 1000000) : cK 18 [s] hp = some (errI (rightB vs), heapOf [.dead] hp) := by
  show aCall Try.prog EK 5 18 _ _ = _
  rw [aCall]
  have hE : EK 18 = some fun _ args h => G18 args h := rfl
  rw [hE]
  exact G18_of h hn
end
theorem law11_fr (o : Blk) (s : Value) (n : Nat) (hlen : (lenO s n).1 = some (lenO s n).2) (hrow : n ≤ 100 → ∃ vs : List ViewV, vs.length = n ∧ ∀ y, TN vs s (hk0 o y)) (y : ViewV) (oth : Int) (W : Base) :
    FRwp Try.prog 133 W fb11 (B11 o s y oth) (fun e st => (e = .normal ∨ e = .ret) ∧ st.df = [] ∧ retVal Try.prog Try.f11 st = some (.bool true)) := by
  have hend : ∀ (O : List Blk) (g : Nat → Value), (Exit.ret = Exit.normal ∨ Exit.ret = Exit.ret) ∧ (stOf 133 g [(8, .bool true)] O).df = [] ∧ retVal Try.prog Try.f11 (stOf 133 g [(8, .bool true)] O) = some (.bool true) := fun O g => ⟨.inr rfl, rfl, q11 _ _ g⟩
  cases h25 : decide (Int.ofNat n > 100) with
  | true => exact FRwp.pieceY cK_ok follows 0 _ _ _ _ (r11a o s n y oth) (Met.cons hlen (Met.cons (met_bool h25) Met.nil)) MetH.nil MetE.nil s11 rfl rfl (noFix _) fun g => hend _ g
  | false =>
    have hn : n ≤ 100 := by simp at h25; omega
    obtain ⟨vs, hvl, hT⟩ := hrow hn
    cases h29 : (y.id == oth) with
    | true => exact FRwp.pieceY cK_ok follows 0 _ _ _ _ (r11b o s n y oth) (Met.cons hlen (Met.cons (met_bool h25) (Met.cons (met_bool h29) Met.nil))) MetH.nil MetE.nil s11 rfl rfl (noFix _) fun g => hend _ g
    | false =>
      have hne : y.id ≠ oth := by simpa using h29
      have hbeg : Met (beg11 s n y oth) := Met.cons hlen (Met.cons (met_bool h25) (Met.cons (met_bool h29) Met.nil))
      have k0 : (hk0 o y).ok := heapOf_ok _ _ hp0_ok
      have a1 := cK_27 y (hT y) (by omega)
      cases hy : (rightB vs && oneV y) with
      | false =>
        rw [hy] at a1
        exact FRwp.pieceY cK_ok follows 0 _ _ _ _ (r11c o s n y oth) hbeg (MetH.cons a1 MetH.nil) MetE.nil s11 rfl rfl (noFix _) fun g => hend _ g
      | true =>
        rw [hy] at a1
        obtain ⟨hr, oy⟩ := Bool.and_eq_true_iff.1 hy
        have hxr := setV_right hr oy
        have hmx : y ∈ setV vs y := (mem_setV hr).2 (.inl rfl)
        have lx : (setV vs y).length ≤ vs.length + 1 := by rw [setV_len]; cases fnd vs y.id <;> simp
        have hf1 : findV vs oth = findV (setV vs y) oth := find_ext (right_iff.1 hr).2 (right_iff.1 hxr).2 fun x hx => by
          rw [mem_setV hr]
          constructor
          · intro hm; exact .inr ⟨hm, by omega⟩
          · rintro (rfl | ⟨hm, -⟩)
            · exact absurd hx hne
            · exact hm
        generalize hxs : setV vs y = xs at *
        have hux := (right_iff.1 hxr).2
        have hfx := (fnd_mem hux hmx).1
        have hf2 : findV (dropV xs y.id) oth = findV xs oth := find_ext (dropV_up hux) hux fun x hx => by
          rw [mem_dropV hux hmx]
          exact ⟨fun h => h.1, fun h => ⟨h, by omega⟩⟩
        have hf3 : findV (dropV xs y.id) y.id = none := by
          cases e : findV (dropV xs y.id) y.id with
          | none => rfl
          | some x =>
            obtain ⟨h1, h2⟩ := (find_mem (dropV_up hux)).1 e
            exact absurd h2 ((mem_dropV hux hmx).1 h1).2
        have hf4 : findV xs y.id = some y := (find_mem hux).2 ⟨hmx, rfl⟩
        have ld := dropV_len hfx
        have lpos : 0 < xs.length := List.length_pos_of_mem hmx
        generalize hds : dropV xs y.id = ds at *
        have z0 : (hk0 o y).sz = 3 := rfl
        have z1 : (hk1 xs o y).sz = 5 := rfl
        have k1 : (hk1 xs o y).ok := heapOf_ok _ _ k0
        have k2 : (hk2 ds xs o y).ok := heapOf_ok _ _ k1
        have kG : ∀ {hp : Hp} (x : ViewV), hp.ok → (hkG x hp).ok := fun x h => heapOf_ok _ _ h
        have TX1 : TN xs (rowS 3 xs.length (setC s vs y.id)) (hk1 xs o y) := TN.new rfl (get_new z0)
        have TX2 : TN xs (rowS 3 xs.length (setC s vs y.id)) (hk2 ds xs o y) := TX1.ext k1 _
        have TD2 : TN ds (rowS 5 ds.length 23) (hk2 ds xs o y) := TN.new rfl (get_new z1)
        have TL2 : TN vs s (hk2 ds xs o y) := ((hT y).ext k0 _).ext k1 _
        have a2 := cK_41 (id := y.id) TX1 (by omega)
        rw [hxr, hfx, hds] at a2
        have a3 := cK_33 (id := y.id) TX2 (by omega)
        have a4 := cK_33 (id := oth) (TL2.ext k2 [.dead, hB y]) (by omega)
        have e4 : getV vs oth = gT ((findV xs oth).getD (zeroV 0)) (findV xs oth).isSome := by unfold getV; rw [hf1]; rfl
        generalize hA : (findV xs oth).getD (zeroV 0) = a at *
        generalize hB' : (findV xs oth).isSome = b at *
        have a5 := cK_33 (id := oth) ((TX2.ext k2 [.dead, hB y]).ext (kG y k2) [.dead, hB a]) (by omega)
        have a6 := cK_33 (id := oth) (((TD2.ext k2 [.dead, hB y]).ext (kG y k2) [.dead, hB a]).ext (kG a (kG y k2)) [.dead, hB a]) (by omega)
        have a7 := cK_33 (id := y.id) ((((TD2.ext k2 [.dead, hB y]).ext (kG y k2) [.dead, hB a]).ext (kG a (kG y k2)) [.dead, hB a]).ext (kG a (kG a (kG y k2))) [.dead, hB a]) (by omega)
        have a8 := cK_18 (((((TX2.ext k2 [.dead, hB y]).ext (kG y k2) [.dead, hB a]).ext (kG a (kG y k2)) [.dead, hB a]).ext (kG a (kG a (kG y k2))) [.dead, hB a]).ext (kG a (kG a (kG a (kG y k2)))) [.dead, hB (zeroV 0)]) (by omega)
        have e3 : getV xs y.id = gT y true := by unfold getV; rw [hf4]; rfl
        have e5 : getV xs oth = gT a b := by unfold getV; rw [hA, hB']; rfl
        have e6 : getV ds oth = gT a b := by unfold getV; rw [hf2, hA, hB']; rfl
        have e7 : getV ds y.id = gT (zeroV 0) false := by unfold getV; rw [hf3]; rfl
        rw [e3] at a3
        rw [e4] at a4
        rw [e5] at a5
        rw [e6] at a6
        rw [e7] at a7
        rw [hxr] at a8
        refine FRwp.pieceY cK_ok follows 0 _ _ _ _ (r11d xs ds o s n y oth xs.length (setC s vs y.id) ds.length a b) (met_app hbeg (Met.cons (eql23_self y) (Met.cons (eql23_self a) (Met.cons (by simp) (Met.cons (eql23_self a) (Met.cons (by simp) (Met.cons (wrap_up (by omega)) (Met.cons ?_ Met.nil)))))))) (MetH.cons a1 (MetH.cons a2 (MetH.cons a3 (MetH.cons a4 (MetH.cons a5 (MetH.cons a6 (MetH.cons a7 (MetH.cons a8 MetH.nil)))))))) MetE.nil s11 rfl rfl (noFix _) fun g => hend _ g
        rw [show ds.length + 1 = xs.length by omega]
        simp
end Go.Proofs.Ytiogdklmhpllfaa.LtA
