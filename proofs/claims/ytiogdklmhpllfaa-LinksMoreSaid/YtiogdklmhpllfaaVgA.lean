/- slices.BinarySearchFunc and views.place, at views that rise: told. -/
import Derived.Test.YtiogdklmhpllfaaVfD
set_option linter.unusedVariables false
set_option linter.unusedSimpArgs false
set_option maxRecDepth 100000
namespace Go.Proofs.Ytiogdklmhpllfaa.LtA
open Go Go.Proofs Go.Proofs.Ytiogdklmhpllfaa.AI Go.RowKit

noncomputable def E54 : Ext := extH Try.prog [(54, g54)]
theorem E54_ok : ExtOk Try.prog E54 := by unfold E54; exact extH_ok (.cons hk54 .nil)
def g81 : List Value → Option Value
  | [.agg cs, .int .i64 k] => match cs.toList with
    | [.int .i64 id, .bool n, .int .i64 t, .int .i64 o, .int .i64 r, .int .i64 d, .int .i64 i] => some (.int .i64 (cmp3 id k))
    | _ => none
  | _ => none
theorem run81 (v : ViewV) (k : Int) : (aCall Try.prog E54 40 81 [.agg ⟨vc v⟩, .int .i64 k] hp0).map (·.1) = some (.int .i64 (cmp3 v.id k)) := by kernel_rfl
theorem hk81 : HookGoal Try.prog 81 g81 := hook_of E54_ok follows Try.func81 (by kernel_rfl) fun args v h => by
  unfold g81 at h
  split at h
  case h_2 => cases h
  rename_i cs k
  split at h
  case h_2 => cases h
  rename_i id n t o r d i hcs
  cases h
  obtain rfl := arr_of hcs
  obtain ⟨⟨u, hp⟩, h1, h2⟩ := Option.map_eq_some_iff.1 (run81 ⟨id, n, t, o, r, d, i⟩ k)
  simp only at h2
  subst h2
  exact ⟨rfl, rfl, 40, hp, h1⟩
noncomputable def E81 : Ext := extH Try.prog [(81, g81)]
theorem E81_ok : ExtOk Try.prog E81 := by unfold E81; exact extH_ok (.cons hk81 .nil)
noncomputable def cB : CallF := aCall Try.prog E81 5
theorem cB_ok : CallOk Try.prog cB := aCall_sound E81_ok follows 5
noncomputable def fb80 : Code := (Try.f80.body).getD .skip
noncomputable def c80a : Code := sL fb80
noncomputable def c80b : Code := sL (sR fb80)
noncomputable def c80c : Code := sL (sR (sR fb80))
noncomputable def c80d : Code := unL (unB (sL (sR (sR (sR fb80)))))
noncomputable def c80e : Code := sR (sR (sR (sR fb80)))
noncomputable abbrev code80 : Code := .seq c80a (.seq c80b (.seq c80c (.seq (.block 0 (.loop c80d)) c80e)))
theorem body80 : Try.f80.body = some code80 := by kernel_rfl
theorem ntmps80 : Try.f80.ntmps = 49 := by kernel_rfl
def Fv : Value := .func (.func 81) #[] #[]
section
variable (o : Blk) (n c : Nat) (id : Int)
abbrev B80 : St := ⟨tmsOf [rowS 0 n c, .int .i64 id, Fv] 0 .leaf, heapOf [o, .dead] hp0, []⟩
abbrev A80 (g : Nat → Value) : St := stOf 49 g [(0, rowS 0 n c), (1, .int .i64 id), (2, Fv)] [o]
abbrev A80' (g : Nat → Value) : St := stOf 49 g [(0, rowS 0 n c), (1, .int .i64 id), (2, Fv), (8, iN n)] [o]
abbrev L80 (i j : Nat) (g : Nat → Value) : St := stOf 49 g [(0, rowS 0 n c), (1, .int .i64 id), (2, Fv), (8, iN n), (9, iN i), (10, iN j)] [o]
theorem r80a : (execE Try.prog cB [] [] [] 10 c80a (B80 o n c id)).map (fun y => (look2 1 [0] [0, 1, 2] (y.1, y.2.1), y.2.2)) = some ((.normal, [o], [(0, rowS 0 n c), (1, .int .i64 id), (2, Fv)], true), [], [], []) := by kernel_rfl
theorem r80b (g : Nat → Value) : (execE Try.prog cB [] [] [] 10 c80b (A80 o n c id g)).map (fun y => (look2 1 [0] [0, 1, 2, 8] (y.1, y.2.1), y.2.2)) = some ((.normal, [o], [(0, rowS 0 n c), (1, .int .i64 id), (2, Fv), (8, iN n)], true), [], [], []) := by kernel_rfl
theorem r80c (g : Nat → Value) : (execE Try.prog cB [] [] [] 10 c80c (A80' o n c id g)).map (fun y => (look2 1 [0] [0, 1, 2, 8, 9, 10] (y.1, y.2.1), y.2.2)) = some ((.normal, [o], [(0, rowS 0 n c), (1, .int .i64 id), (2, Fv), (8, iN n), (9, iN 0), (10, iN n)], true), [], [], []) := by kernel_rfl
theorem r80x (i j : Nat) (g : Nat → Value) : (execE Try.prog cB [(17, .bool false)] [] [] 20 c80d (L80 o n c id i j g)).map (fun y => (look2 1 [0] [0, 1, 2, 8, 9, 10] (y.1, y.2.1), y.2.2)) =
    some ((.exit 0, [o], [(0, rowS 0 n c), (1, .int .i64 id), (2, Fv), (8, iN n), (9, iN i), (10, iN j)], true), [(some (.bool (decide (Int.ofNat i < Int.ofNat j))), .bool false)], [], []) := by kernel_rfl
def uN (n : Nat) : Value := .int .u64 (Int.ofNat n)
noncomputable def owe80 (i j h : Nat) (x : ViewV) : List Obl :=
  [(some (.bool (decide (Int.ofNat i < Int.ofNat j))), .bool true), (some (.int .i64 (wrapF .i64 (Int.ofNat i + Int.ofNat j))), iN (i + j)), (some (.int .u64 (wrapF .u64 (Int.ofNat (i + j)))), uN (i + j)),
   (some (.int .u64 (Int.fdiv (Int.ofNat (i + j)) (2 ^ (min (Int.toNat 1) 64)))), uN h), (some (.int .i64 (wrapF .i64 (Int.ofNat h))), iN h), ixO 0 n c h, ldO (heapOf ([o] ++ [.dead]) hp0).get 34 0 (h * 7) (.agg ⟨vc x⟩)]
def see80 (i j h : Nat) (x : ViewV) : List (Tmp × Value) := [(17, .bool true), (20, iN (i + j)), (21, uN (i + j)), (22, uN h), (23, iN h), (27, pb 0 (h * 7)), (28, .agg ⟨vc x⟩)]
theorem r80f (i j h : Nat) (x : ViewV) (g : Nat → Value) : (execE Try.prog cB (see80 i j h x ++ [(31, .bool true), (33, iN (h + 1))]) [] [] 20 c80d (L80 o n c id i j g)).map (fun y => (look2 1 [0] [0, 1, 2, 8, 9, 10] (y.1, y.2.1), y.2.2)) =
    some ((.normal, [o], [(0, rowS 0 n c), (1, .int .i64 id), (2, Fv), (8, iN n), (9, iN (h + 1)), (10, iN j)], true), owe80 o n c i j h x ++ [(some (.bool (decide (cmp3 x.id id < 0))), .bool true), (some (.int .i64 (wrapF .i64 (Int.ofNat h + 1))), iN (h + 1))], [], []) := by kernel_rfl
theorem r80g (i j h : Nat) (x : ViewV) (g : Nat → Value) : (execE Try.prog cB (see80 i j h x ++ [(31, .bool false)]) [] [] 20 c80d (L80 o n c id i j g)).map (fun y => (look2 1 [0] [0, 1, 2, 8, 9, 10] (y.1, y.2.1), y.2.2)) =
    some ((.normal, [o], [(0, rowS 0 n c), (1, .int .i64 id), (2, Fv), (8, iN n), (9, iN i), (10, iN h)], true), owe80 o n c i j h x ++ [(some (.bool (decide (cmp3 x.id id < 0))), .bool false)], [], []) := by kernel_rfl
theorem r80h (i j : Nat) (g : Nat → Value) : (execE Try.prog cB [(38, .bool false)] [] [] 20 c80e (L80 o n c id i j g)).map (fun y => (look2 0 [] [6, 7] (y.1, y.2.1), y.2.2)) =
    some ((.ret, [], [(6, iN i), (7, .bool false)], true), [(some (.bool (decide (Int.ofNat i < Int.ofNat n))), .bool false)], [], []) := by kernel_rfl
theorem r80i (i j : Nat) (x : ViewV) (b : Bool) (g : Nat → Value) : (execE Try.prog cB [(38, .bool true), (43, pb 0 (i * 7)), (44, .agg ⟨vc x⟩), (47, .bool b)] [] [] 20 c80e (L80 o n c id i j g)).map (fun y => (look2 0 [] [6, 7] (y.1, y.2.1), y.2.2)) =
    some ((.ret, [], [(6, iN i), (7, .bool b)], true), [(some (.bool (decide (Int.ofNat i < Int.ofNat n))), .bool true), ixO 0 n c i, ldO (heapOf ([o] ++ [.dead]) hp0).get 34 0 (i * 7) (.agg ⟨vc x⟩), (some (.bool (cmp3 x.id id == 0)), .bool b)], [], []) := by kernel_rfl
end
theorem q80 (v u : Value) (O : List Blk) (g : Nat → Value) : retVal Try.prog Try.f80 (stOf 49 g [(6, v), (7, u)] O) = some (.tuple #[v, u]) := by kernel_rfl
theorem s80a : codeSafe Try.prog 49 c80a = true := by kernel_rfl
theorem s80b : codeSafe Try.prog 49 c80b = true := by kernel_rfl
theorem s80c : codeSafe Try.prog 49 c80c = true := by kernel_rfl
theorem s80d : codeSafe Try.prog 49 c80d = true := by kernel_rfl
theorem s80e : codeSafe Try.prog 49 c80e = true := by kernel_rfl
end Go.Proofs.Ytiogdklmhpllfaa.LtA
namespace Go.Proofs.Ytiogdklmhpllfaa.LtA
open Go Go.Proofs Go.Proofs.Ytiogdklmhpllfaa.AI Go.RowKit

/-- They rise. -/
def Rises (vs : List ViewV) : Prop := ∀ (i j : Nat) (u v : ViewV), i < j → vs[i]? = some u → vs[j]? = some v → u.id < v.id
def pos (vs : List ViewV) (id : Int) : Nat := (vs.takeWhile fun x => decide (x.id < id)).length
def fnd (vs : List ViewV) (id : Int) : Bool := match vs[pos vs id]? with
  | some x => x.id == id
  | none => false
theorem take_len_of {α : Type} {p : α → Bool} : ∀ {vs : List α} {i : Nat}, i ≤ vs.length → (∀ k x, k < i → vs[k]? = some x → p x = true) → (∀ x, vs[i]? = some x → p x = false) → (vs.takeWhile p).length = i
  | [], i, hi, _, _ => by simp at hi; subst hi; rfl
  | v :: vs, 0, _, _, h => by rw [List.takeWhile_cons, h v rfl]; rfl
  | v :: vs, i + 1, hi, h1, h2 => by
    rw [List.takeWhile_cons, h1 0 v (by omega) rfl]
    simp only [if_true, List.length_cons]
    rw [take_len_of (by simpa using hi) (fun k x hk hx => h1 (k + 1) x (by omega) (by simpa using hx)) (fun x hx => h2 x (by simpa using hx))]
theorem pos_le (vs : List ViewV) (id : Int) : pos vs id ≤ vs.length := List.takeWhile_sublist _ |>.length_le
theorem cmp3_lt (a b : Int) : decide (cmp3 a b < 0) = decide (a < b) := by
  unfold cmp3
  cases h1 : decide (a < b) with
  | true => rfl
  | false => cases h2 : decide (a > b) <;> rfl
theorem half_ok {i j : Nat} : (some (Value.int .u64 (Int.fdiv (Int.ofNat (i + j)) (2 ^ (min (Int.toNat 1) 64))))) = some (uN ((i + j) / 2)) := by
  have e : Int.fdiv (Int.ofNat (i + j)) (2 ^ (min (Int.toNat 1) 64)) = Int.ofNat ((i + j) / 2) := by
    show Int.fdiv (Int.ofNat (i + j)) 2 = _
    rw [Int.fdiv_eq_ediv_of_nonneg _ (by decide)]
    simp only [Int.ofNat_eq_natCast]
    omega
  rw [e]; rfl
theorem u64_ok {n : Nat} (h : n < 3000000) : (some (Value.int .u64 (wrapF .u64 (Int.ofNat n)))) = some (uN n) := by
  have : wrapF .u64 (Int.ofNat n) = Int.ofNat n := by
    show IntKind.wrap .u64 (Int.ofNat n) = _
    simp only [IntKind.wrap, IntKind.bits, IntKind.signed, Int.ofNat_eq_natCast]
    simp
    omega
  rw [this]; rfl
theorem i64_ok {n : Nat} (h : n < 3000000) : (some (Value.int .i64 (wrapF .i64 (Int.ofNat n)))) = some (iN n) := by
  rw [wrap64 (by have := Int.natCast_nonneg n; simp only [Int.ofNat_eq_natCast]; omega) (by simp only [Int.ofNat_eq_natCast]; omega)]
  rfl
theorem add_ok {i j : Nat} (h : i + j < 3000000) : (some (Value.int .i64 (wrapF .i64 (Int.ofNat i + Int.ofNat j)))) = some (iN (i + j)) := by
  have e : Int.ofNat i + Int.ofNat j = Int.ofNat (i + j) := rfl
  rw [e, i64_ok h]
theorem search_fr (o : Blk) (ho : inertB o = true) (vs : List ViewV) (hn : vs.length < 1000000) (hs : Rises vs) (hrow : vs = [] ∨ ∃ ty ro, o = .cells ty (vrow vs) ro) (c : Nat) (id : Int) (W : Base) :
    FRwp Try.prog 49 W code80 (B80 o vs.length c id) (fun e st => e = .ret ∧ ∃ g, st = stOf 49 g [(6, iN (pos vs id)), (7, .bool (fnd vs id))] []) := by
  refine FRwp.seq (Q1 := fun x st => x = .normal ∧ ∃ g, st = A80 o vs.length c id g) (FRwp.pieceY cB_ok follows 1 _ _ _ _ (r80a o vs.length c id) Met.nil MetH.nil MetE.nil s80a rfl rfl (fix11 ho _) fun g => ⟨rfl, g, rfl⟩) ?_ (fun x st hne hq => absurd hq.1 hne)
  rintro st ⟨-, g, rfl⟩
  refine FRwp.seq (Q1 := fun x st => x = .normal ∧ ∃ g, st = A80' o vs.length c id g) (FRwp.pieceY cB_ok follows 1 _ _ _ _ (r80b o vs.length c id g) Met.nil MetH.nil MetE.nil s80b rfl rfl (fix11 ho _) fun g => ⟨rfl, g, rfl⟩) ?_ (fun x st hne hq => absurd hq.1 hne)
  rintro st ⟨-, g, rfl⟩
  refine FRwp.seq (Q1 := fun x st => x = .normal ∧ ∃ g, st = L80 o vs.length c id 0 vs.length g) (FRwp.pieceY cB_ok follows 1 _ _ _ _ (r80c o vs.length c id g) Met.nil MetH.nil MetE.nil s80c rfl rfl (fix11 ho _) fun g => ⟨rfl, g, rfl⟩) ?_ (fun x st hne hq => absurd hq.1 hne)
  rintro st ⟨-, g, rfl⟩
  have hrow' : ∀ {h : Nat}, h < vs.length → RowAt (heapOf ([o] ++ [.dead]) hp0) 0 vs := fun hh => by
    rcases hrow with h | ⟨ty, ro, h⟩
    · rw [h] at hh; simp at hh
    · exact .of (ty := ty) (ro := ro) (by rw [heapOf0_get, h]; rfl)
  refine FRwp.seq (Q1 := fun x st => x = .normal ∧ ∃ g, st = L80 o vs.length c id (pos vs id) (pos vs id) g) ?_ ?_ (fun x st hne hq => absurd hq.1 hne)
  · refine FRwp.block ?_
    refine FRwp.loop (fun k st => ∃ i j g, i ≤ j ∧ j ≤ vs.length ∧ k = j - i ∧ (∀ k x, k < i → vs[k]? = some x → decide (x.id < id) = true) ∧ (∀ k x, j ≤ k → vs[k]? = some x → decide (x.id < id) = false) ∧ st = L80 o vs.length c id i j g) ?_ (k := vs.length)
      ⟨0, vs.length, g, Nat.zero_le _, Nat.le_refl _, rfl, fun k x hk => absurd hk (Nat.not_lt_zero _), fun k x hk hx => (by rw [List.getElem?_eq_none hk] at hx; cases hx), rfl⟩
    rintro k st ⟨i, j, g, hij, hj, hk, hlo, hhi, rfl⟩
    cases h17 : decide (Int.ofNat i < Int.ofNat j) with
    | false =>
      refine FRwp.pieceY cB_ok follows 1 _ _ _ _ (r80x o vs.length c id i j g) (Met.cons (met_bool h17) Met.nil) MetH.nil MetE.nil s80d rfl rfl (fix11 ho _) fun g' => .inr ⟨by simp, ?_⟩
      show (if (0 : Nat) = 0 then _ else _)
      rw [if_pos rfl]
      have hii : i = j := by simp at h17; omega
      subst hii
      have hp : pos vs id = i := take_len_of hj hlo fun x hx => hhi i x (Nat.le_refl _) hx
      exact ⟨rfl, g', by rw [hp]⟩
    | true =>
      have hlt : i < j := by simpa using h17
      obtain ⟨x, hx⟩ : ∃ x, vs[(i + j) / 2]? = some x := ⟨_, List.getElem?_eq_getElem (by omega)⟩
      have hh : (i + j) / 2 < vs.length := by omega
      have hmet : Met (owe80 o vs.length c i j ((i + j) / 2) x) := Met.cons (met_bool h17) (Met.cons (add_ok (by omega)) (Met.cons (u64_ok (by omega)) (Met.cons half_ok (Met.cons (i64_ok (by omega)) (Met.cons (vidx_ok hh) (Met.cons (vload_ok (hrow' hh) hx) Met.nil))))))
      cases h31 : decide (x.id < id) with
      | true =>
        refine FRwp.pieceY cB_ok follows 1 _ _ _ _ (r80f o vs.length c id i j ((i + j) / 2) x g) (met_app hmet (Met.cons (met_bool (by rw [cmp3_lt, h31])) (Met.cons (wrap_up (by omega)) Met.nil))) MetH.nil MetE.nil s80d rfl rfl (fix11 ho _) fun g' => .inl ⟨rfl, j - ((i + j) / 2 + 1), by omega, (i + j) / 2 + 1, j, g', by omega, hj, rfl, fun k y hk hy => ?_, hhi, rfl⟩
        by_cases hke : k = (i + j) / 2
        · subst hke; rw [hx] at hy; cases hy; exact h31
        · have := hs k ((i + j) / 2) y x (by omega) hy hx
          have h2 := of_decide_eq_true h31
          exact decide_eq_true (by omega)
      | false =>
        refine FRwp.pieceY cB_ok follows 1 _ _ _ _ (r80g o vs.length c id i j ((i + j) / 2) x g) (met_app hmet (Met.cons (met_bool (by rw [cmp3_lt, h31])) Met.nil)) MetH.nil MetE.nil s80d rfl rfl (fix11 ho _) fun g' => .inl ⟨rfl, (i + j) / 2 - i, by omega, i, (i + j) / 2, g', by omega, by omega, rfl, hlo, fun k y hk hy => ?_, rfl⟩
        by_cases hke : k = (i + j) / 2
        · subst hke; rw [hx] at hy; cases hy; exact h31
        · have := hs ((i + j) / 2) k x y (by omega) hx hy
          have h2 := of_decide_eq_false h31
          exact decide_eq_false (by omega)
  · rintro st ⟨-, g, rfl⟩
    have hple := pos_le vs id
    cases h38 : decide (Int.ofNat (pos vs id) < Int.ofNat vs.length) with
    | false =>
      have hf : fnd vs id = false := by
        have : vs.length ≤ pos vs id := by simp at h38; omega
        unfold fnd; rw [List.getElem?_eq_none this]
      rw [hf]
      exact FRwp.pieceY cB_ok follows 0 _ _ _ _ (r80h o vs.length c id (pos vs id) (pos vs id) g) (Met.cons (met_bool h38) Met.nil) MetH.nil MetE.nil s80e rfl rfl (noFix _) fun g' => ⟨rfl, g', rfl⟩
    | true =>
      have hlt : pos vs id < vs.length := by simpa using h38
      obtain ⟨x, hx⟩ : ∃ x, vs[pos vs id]? = some x := ⟨_, List.getElem?_eq_getElem hlt⟩
      have hf : fnd vs id = (cmp3 x.id id == 0) := by unfold fnd; rw [hx, cmp3_zero]
      rw [hf]
      exact FRwp.pieceY cB_ok follows 0 _ _ _ _ (r80i o vs.length c id (pos vs id) (pos vs id) x _ g) (Met.cons (met_bool h38) (Met.cons (vidx_ok hlt) (Met.cons (vload_ok (hrow' hlt) hx) (Met.cons rfl Met.nil)))) MetH.nil MetE.nil s80e rfl rfl (noFix _) fun g' => ⟨rfl, g', rfl⟩

/-! ### Told -/
theorem TR.uniq {us vs : List ViewV} {s : Value} {hp : Hp} (h1 : TR us s hp) (h2 : TR vs s hp) : us = vs := by
  obtain ⟨b, c, o, rfl, hb, _, hr⟩ := h1
  obtain ⟨b', c', o', e, hb', _, hr'⟩ := h2
  unfold rowS at e
  simp only [Value.slice.injEq, Option.some.injEq, Addr.mk.injEq, and_true] at e
  obtain ⟨rfl, hl, -⟩ := e
  rw [hb] at hb'; cases hb'
  have inj : ∀ {us vs : List ViewV}, vrow us = vrow vs → us = vs := by
    intro us
    induction us with
    | nil => intro vs h; cases vs with
      | nil => rfl
      | cons v vs => simp [vrow, vc] at h
    | cons u us ih => intro vs h; cases vs with
      | nil => simp [vrow, vc] at h
      | cons v vs =>
        simp only [vrow, vc, List.flatMap_cons, List.cons_append, List.nil_append, List.cons.injEq, Value.int.injEq, Value.bool.injEq, true_and] at h
        obtain ⟨a1, a2, a3, a4, a5, a6, a7, h⟩ := h
        have := ih h
        subst this
        cases u; cases v
        simp_all
  rcases hr with h | ⟨ty, ro, h⟩
  · subst h
    exact (List.eq_nil_of_length_eq_zero hl.symm).symm
  · rcases hr' with h' | ⟨ty', ro', h'⟩
    · subst h'
      exact List.eq_nil_of_length_eq_zero hl
    · rw [h] at h'
      injection h' with _ h2 _
      exact inj h2
/-- A row of views in a caller's heap: nil, or not. -/
def TN (vs : List ViewV) (s : Value) (hp : Hp) : Prop := s = nilS ∧ vs = [] ∨ TR vs s hp
theorem TN.uniq {us vs : List ViewV} {s : Value} {hp : Hp} (h1 : TN us s hp) (h2 : TN vs s hp) : us = vs := by
  rcases h1 with ⟨rfl, rfl⟩ | h1
  · rcases h2 with ⟨-, rfl⟩ | h2
    · rfl
    · exact h2.not_nil.elim
  · rcases h2 with ⟨rfl, rfl⟩ | h2
    · exact h1.not_nil.elim
    · exact h1.uniq h2
open Classical in
/-- Told at whatever row. -/
noncomputable def atRow (P : List ViewV → Prop) (k : List ViewV → HeapFn) : HeapFn := fun args hp => match args with
  | s :: _ => if h : ∃ vs, TN vs s hp ∧ vs.length < 1000000 ∧ P vs then k h.choose args hp else none
  | _ => none
theorem atRow_goal {f : FuncId} {P : List ViewV → Prop} {k : List ViewV → HeapFn} (h : ∀ vs, vs.length < 1000000 → P vs → CallGoal Try.prog f (k vs)) : CallGoal Try.prog f (atRow P k) := by
  intro args hp v hp' he hk
  unfold atRow at he
  split at he
  case h_2 => cases he
  split at he
  · rename_i hx
    exact h _ hx.choose_spec.2.1 hx.choose_spec.2.2 _ _ _ _ he hk
  · cases he
theorem atRow_of {P : List ViewV → Prop} {k : List ViewV → HeapFn} {vs : List ViewV} {s : Value} {r : List Value} {hp : Hp} (h : TN vs s hp) (hn : vs.length < 1000000) (hp' : P vs) : atRow P k (s :: r) hp = k vs (s :: r) hp := by
  unfold atRow
  have hx : ∃ vs, TN vs s hp ∧ vs.length < 1000000 ∧ P vs := ⟨vs, h, hn, hp'⟩
  simp only
  rw [dif_pos hx]
  rw [hx.choose_spec.1.uniq h]
open Classical in
noncomputable def g80 (vs : List ViewV) : HeapFn := fun args hp => match args with
  | [s, .int .i64 id, f] => if f = Fv ∧ TR vs s hp then some (.tuple #[iN (pos vs id), .bool (fnd vs id)], heapOf ([] ++ [.dead]) hp) else none
  | _ => none
theorem hk80 (vs : List ViewV) (hn : vs.length < 1000000) (hs : Rises vs) : CallGoal Try.prog 80 (g80 vs) := scan_goal follows Try.func80 body80 (by kernel_rfl) fun args hp v hp' h hk => by
  unfold g80 at h
  rw [ntmps80]
  split at h
  case h_2 => cases h
  rename_i s id f
  split at h
  case isFalse => cases h
  rename_i hT
  cases h
  obtain ⟨rfl, b, c, o, rfl, hb, hi, hr⟩ := hT
  refine ⟨[b], [], [], rfl, rfl, rfl, rfl, fun b' hb' => ?_, rfl, (by simp), fun W => ?_⟩
  · have : b' = b := by simpa using hb'
    subst this
    exact ⟨o, hb, inert_start hi⟩
  · have e1 : [rowS b vs.length c, .int .i64 id, Fv].map (sh3 [b] 0) = [rowS 0 vs.length c, .int .i64 id, Fv] := by simp [sh3, sh2, sh1, rho, idxOf, rowS, Fv]
    rw [e1, start1 hb hi]
    refine FRwp.mono (search_fr (roBlk o) (ro_inert hi) vs hn hs (ro_row hr) c id W) fun e st q => ?_
    obtain ⟨rfl, g, rfl⟩ := q
    exact ⟨.inr rfl, rfl, _, q80 _ _ _ g, rfl, (fun b hb => by cases hb), by simp [sh3, sh2, sh1, iN], rfl⟩
noncomputable def E62 (vs : List ViewV) : Ext := extG (extH Try.prog []) [(80, g80 vs)]
theorem E62_ok (vs : List ViewV) (hn : vs.length < 1000000) (hs : Rises vs) : ExtOk Try.prog (E62 vs) := extG_ok (extH_ok .nil) (.cons (hk80 vs hn hs) .nil)
noncomputable def c62 (vs : List ViewV) : CallF := aCall Try.prog (E62 vs) 5
theorem c62_ok (vs : List ViewV) (hn : vs.length < 1000000) (hs : Rises vs) : CallOk Try.prog (c62 vs) := aCall_sound (E62_ok vs hn hs) follows 5
noncomputable def fb62 : Code := (Try.f62.body).getD .skip
theorem body62 : Try.f62.body = some fb62 := by kernel_rfl
theorem ntmps62 : Try.f62.ntmps = 11 := by kernel_rfl
theorem s62 : codeSafe Try.prog 11 fb62 = true := by kernel_rfl
theorem q62 (v u : Value) (O : List Blk) (g : Nat → Value) : retVal Try.prog Try.f62 (stOf 11 g [(4, v), (5, u)] O) = some (.tuple #[v, u]) := by kernel_rfl
theorem r62 (o : Blk) (vs : List ViewV) (n c p : Nat) (id : Int) (b : Bool) : (execE Try.prog (c62 vs) [] [(8, .tuple #[iN p, .bool b], [.dead])] [] 20 fb62 ⟨tmsOf [rowS 0 n c, .int .i64 id] 0 .leaf, heapOf [o, .dead] hp0, []⟩).map (fun y => (look2 0 [] [4, 5] (y.1, y.2.1), y.2.2)) =
    some ((.ret, [], [(4, iN p), (5, .bool b)], true), [], [(c62 vs 80 [rowS 0 n c, .int .i64 id, Fv] (heapOf [o, .dead] hp0), (.tuple #[iN p, .bool b], heapOf [.dead] (heapOf [o, .dead] hp0)))], []) := by kernel_rfl
open Classical in
theorem call80 {vs : List ViewV} {s : Value} {hp : Hp} {id : Int} (h : TR vs s hp) : c62 vs 80 [s, .int .i64 id, Fv] hp = some (.tuple #[iN (pos vs id), .bool (fnd vs id)], heapOf [.dead] hp) := by
  show aCall Try.prog (E62 vs) 5 80 _ _ = _
  rw [aCall]
  have hE : E62 vs 80 = some fun _ args h => g80 vs args h := rfl
  rw [hE]
  show (if Fv = Fv ∧ TR vs s hp then _ else _) = _
  rw [if_pos ⟨rfl, h⟩]
  rfl
open Classical in
noncomputable def g62 (vs : List ViewV) : HeapFn := fun args hp => match args with
  | [s, .int .i64 id] => if TR vs s hp then some (.tuple #[iN (pos vs id), .bool (fnd vs id)], heapOf ([] ++ [.dead]) hp) else none
  | _ => none
theorem hk62 (vs : List ViewV) (hn : vs.length < 1000000) (hs : Rises vs) : CallGoal Try.prog 62 (g62 vs) := scan_goal follows Try.func62 body62 (by kernel_rfl) fun args hp v hp' h hk => by
  unfold g62 at h
  rw [ntmps62]
  split at h
  case h_2 => cases h
  rename_i s id
  split at h
  case isFalse => cases h
  rename_i hT
  cases h
  obtain ⟨b, c, o, rfl, hb, hi, hr⟩ := hT
  refine ⟨[b], [], [], rfl, rfl, rfl, rfl, fun b' hb' => ?_, rfl, (by simp), fun W => ?_⟩
  · have : b' = b := by simpa using hb'
    subst this
    exact ⟨o, hb, inert_start hi⟩
  · have e1 : [rowS b vs.length c, .int .i64 id].map (sh3 [b] 0) = [rowS 0 vs.length c, .int .i64 id] := by simp [sh3, sh2, sh1, rho, idxOf, rowS]
    rw [e1, start1 hb hi]
    exact FRwp.pieceY (c62_ok vs hn hs) follows 0 _ _ _ _ (r62 (roBlk o) vs vs.length c (pos vs id) id (fnd vs id)) Met.nil (MetH.cons (call80 ⟨0, c, roBlk o, rfl, by rw [heapOf0_get]; rfl, ro_inert hi, ro_row hr⟩) MetH.nil) MetE.nil s62 rfl rfl (noFix _)
      fun g => ⟨.inr rfl, rfl, _, q62 _ _ _ g, rfl, (fun b hb => by cases hb), by simp [sh3, sh2, sh1, iN], rfl⟩
end Go.Proofs.Ytiogdklmhpllfaa.LtA
namespace Go.Proofs.Ytiogdklmhpllfaa.LtA
open Go Go.Proofs Go.Proofs.Ytiogdklmhpllfaa.AI Go.RowKit

noncomputable def E27 (vs : List ViewV) : Ext := extG (extH Try.prog [(55, g55)]) [(18, g18 vs), (61, g61 vs), (62, g62 vs), (63, gIns)]
noncomputable def c27 (vs : List ViewV) : CallF := aCall Try.prog (E27 vs) 5
noncomputable def E27n : Ext := extH Try.prog [(55, g55)]
theorem E27n_ok : ExtOk Try.prog E27n := by unfold E27n; exact extH_ok (.cons hk55 .nil)
noncomputable def c27n : CallF := aCall Try.prog E27n 60
theorem c27n_ok : CallOk Try.prog c27n := aCall_sound E27n_ok follows 60
noncomputable def fb27 : Code := (Try.f27.body).getD .skip
theorem body27 : Try.f27.body = some fb27 := by kernel_rfl
theorem ntmps27 : Try.f27.ntmps = 42 := by kernel_rfl
theorem s27 : codeSafe Try.prog 42 fb27 = true := by kernel_rfl
theorem q27 (v u : Value) (O : List Blk) (g : Nat → Value) : retVal Try.prog Try.f27 (stOf 42 g [(6, v), (7, u)] O) = some (.tuple #[v, u]) := by kernel_rfl
def hcL (x : ViewV) : List Value := [.bool x.n, .int .i64 x.t, .int .i64 x.o, .int .i64 x.r, .int .i64 x.d, .int .i64 x.i]
def zeroV (id : Int) : ViewV := ⟨id, false, 0, 0, 0, 0, 0⟩
def hS0 (o : Blk) (y : ViewV) : Hp := heapOf [o, .dead, .cells 23 (hcL y) false] hp0
section
variable (vs ws us : List ViewV) (o : Blk) (n c p : Nat) (y : ViewV)
abbrev B27 : St := ⟨tmsOf [rowS 0 n c, .int .i64 y.id, hcA y] 0 .leaf, heapOf [o, .dead] hp0, []⟩
noncomputable def od1 (v : Value) : OblH := (c27 vs 18 [rowS 0 n c] (hS0 o y), (v, heapOf [.dead] (hS0 o y)))
/-- Not a view that may be. -/
theorem r27b : (execE Try.prog (c27 vs) [(17, .bool false)] [(12, iN 0, [.dead])] [] 40 fb27 (B27 o n c y)).map (fun z => (look2 0 [] [6, 7] (z.1, z.2.1), z.2.2)) =
    some ((.ret, [], [(6, nilS), (7, iN 1)], true), [(some (.bool (oneV y)), .bool false)], [od1 vs o n c y (iN 0)], []) := by kernel_rfl
noncomputable def od2 : OblH := (c27 vs 61 [rowS 0 n c] (heapOf [.dead] (hS0 o y)), (newS 4 n, heapOf [rowB vs, .dead] (heapOf [.dead] (hS0 o y))))
noncomputable def hS2 (vs : List ViewV) (o : Blk) (y : ViewV) : Hp := heapOf [.dead] (heapOf [rowB vs, .dead] (heapOf [.dead] (hS0 o y)))
noncomputable def od3 (b : Bool) : OblH := (c27 vs 62 [newS 4 n, .int .i64 y.id] (heapOf [rowB vs, .dead] (heapOf [.dead] (hS0 o y))), (.tuple #[iN p, .bool b], hS2 vs o y))
/-- It was there. -/
theorem r27c : (execE Try.prog (c27 vs) [(17, .bool true), (39, pb 4 (p * 7))] [(12, iN 0, [.dead]), (21, newS 4 n, [rowB vs, .dead]), (25, .tuple #[iN p, .bool true], [.dead])] [(1040, undef, [.put 4 (rowB ws)])] 40 fb27 (B27 o n c y)).map (fun z => (look2 1 [4] [6, 7] (z.1, z.2.1), z.2.2)) =
    some ((.ret, [rowB ws], [(6, newS 0 n), (7, iN 0)], true), [(some (.bool (oneV y)), .bool true), ixO 4 n 22 p], [od1 vs o n c y (iN 0), od2 vs o n c y, od3 vs o n p y true],
      [((aStore Try.prog (hS2 vs o y).get 23 (pb 4 (p * 7 + 1)) (hcA y)).map fun es => (undef, es), (undef, [.put 4 (rowB ws)]))]) := by kernel_rfl
noncomputable def hS3 (vs : List ViewV) (o : Blk) (y : ViewV) : Hp := (hS2 vs o y).push (.cells 34 (vc (zeroV y.id)) false)
noncomputable def hS4 (vs us : List ViewV) (o : Blk) (y : ViewV) : Hp := heapOf ([rowB us] ++ [.dead]) (killL [4, 7] (hS3 vs o y))
/-- It was not there. -/
theorem r27d : (execE Try.prog (c27 vs) [(17, .bool true), (39, pb 8 (p * 7))] [(12, iN 0, [.dead]), (21, newS 4 n, [rowB vs, .dead]), (25, .tuple #[iN p, .bool false], [.dead])]
      [(35, slS 8 0 (n + 1) 23, [.put 4 .dead, .put 7 .dead, .push (rowB us), .push .dead]), (1040, undef, [.put 8 (rowB ws)])] 40 fb27 (B27 o n c y)).map (fun z => (look2 1 [8] [6, 7] (z.1, z.2.1), z.2.2)) =
    some ((.ret, [rowB ws], [(6, rowS 0 (n + 1) 23), (7, iN 0)], true), [(some (.bool (oneV y)), .bool true), ixO 8 (n + 1) 23 p],
      [od1 vs o n c y (iN 0), od2 vs o n c y, od3 vs o n p y false, (c27 vs 63 [newS 4 n, iN p, rowS 7 1 22] (hS3 vs o y), (slS 8 0 (n + 1) 23, hS4 vs us o y))],
      [((aStore Try.prog (hS4 vs us o y).get 23 (pb 8 (p * 7 + 1)) (hcA y)).map fun es => (undef, es), (undef, [.put 8 (rowB ws)]))]) := by kernel_rfl
theorem r27e : (execE Try.prog c27n [(17, .bool false)] [] [] 40 fb27 ⟨tmsOf [nilS, .int .i64 y.id, hcA y] 0 .leaf, heapOf [.dead] hp0, []⟩).map (fun z => (look2 0 [] [6, 7] (z.1, z.2.1), z.2.2)) =
    some ((.ret, [], [(6, nilS), (7, iN 1)], true), [(some (.bool (oneV y)), .bool false)], [], []) := by kernel_rfl
theorem r27f : (execE Try.prog c27n [(17, .bool true)] [] [] 40 fb27 ⟨tmsOf [nilS, .int .i64 y.id, hcA y] 0 .leaf, heapOf [.dead] hp0, []⟩).map (fun z => (look2 1 [3] [6, 7] (z.1, z.2.1), z.2.2)) =
    some ((.ret, [rowB [y]], [(6, newS 0 1), (7, iN 0)], true), [(some (.bool (oneV y)), .bool true)], [], []) := by kernel_rfl
end
end Go.Proofs.Ytiogdklmhpllfaa.LtA
namespace Go.Proofs.Ytiogdklmhpllfaa.LtA
open Go Go.Proofs Go.Proofs.Ytiogdklmhpllfaa.AI Go.RowKit

/-- A view is set. -/
def setV (vs : List ViewV) (y : ViewV) : List ViewV := bif fnd vs y.id then vs.set (pos vs y.id) y else vs.take (pos vs y.id) ++ y :: vs.drop (pos vs y.id)
theorem rises_of (vs : List ViewV) (h : rightB vs = true) : Rises vs := by
  have step : ∀ (i : Nat) (u v : ViewV), vs[i]? = some u → vs[i + 1]? = some v → u.id < v.id := by
    intro i u v hu hv
    have hi : i + 1 < vs.length := (List.getElem?_eq_some_iff.1 hv).1
    have := List.all_eq_true.1 h (i + 1) (List.mem_range.2 hi)
    unfold rightAt at this
    rw [hv] at this
    simp only [hu, Bool.and_eq_true, decide_eq_true_eq] at this
    exact this.2
  intro i j
  induction j with
  | zero => intro u v hij; omega
  | succ j ih =>
    intro u v hij hu hv
    by_cases e : i = j
    · subst e; exact step i u v hu hv
    · have hj : j < vs.length := by have := (List.getElem?_eq_some_iff.1 hv).1; omega
      have h1 := ih u vs[j] (by omega) hu (List.getElem?_eq_getElem hj)
      have h2 := step j vs[j] v (List.getElem?_eq_getElem hj) hv
      omega
theorem fnd_some {vs : List ViewV} {id : Int} (h : fnd vs id = true) : ∃ x, vs[pos vs id]? = some x ∧ x.id = id := by
  unfold fnd at h
  split at h
  · rename_i x hx; exact ⟨x, hx, by simpa using h⟩
  · cases h
theorem store23 {us : List ViewV} {p b : Nat} {x y : ViewV} {get : Nat → Option Blk} (hg : get b = some (rowB us)) (hx : us[p]? = some x) (hid : x.id = y.id) :
    ((aStore Try.prog get 23 (pb b (p * 7 + 1)) (hcA y)).map fun es => (undef, es)) = some (undef, [.put b (rowB (us.set p y))]) := by
  have hi : p < us.length := (List.getElem?_eq_some_iff.1 hx).1
  have hcell : cellsL (hcA y) = hcL y := rfl
  have hput := put_row (k := 1) (y := y) (ns := hcL y) hx (by simp [hcL]) (fun j hj => by
    match j, hj with
    | 0, _ => simp [vc, hid]
    | 1, _ => rfl
    | 2, _ => rfl
    | 3, _ => rfl
    | 4, _ => rfl
    | 5, _ => rfl
    | 6, _ => rfl)
  unfold rowB at hg
  unfold pb
  simp only [aStore, hg, size23, hcell]
  rw [if_pos]
  · rw [hput]; rfl
  · rw [Bool.and_eq_true, Bool.and_eq_true]
    refine ⟨⟨rfl, rfl⟩, decide_eq_true ?_⟩
    rw [vrow_len]; omega
theorem vrow_append (us vs : List ViewV) : vrow (us ++ vs) = vrow us ++ vrow vs := by unfold vrow; rw [List.flatMap_append]
theorem vrow_take {vs : List ViewV} {p : Nat} (h : p ≤ vs.length) : (vrow vs).take (p * 7) = vrow (vs.take p) := by
  have e : vrow vs = vrow (vs.take p) ++ vrow (vs.drop p) := by rw [← vrow_append, List.take_append_drop]
  rw [e, List.take_left' (by rw [vrow_len, List.length_take]; omega)]
theorem vrow_drop {vs : List ViewV} {p : Nat} (h : p ≤ vs.length) : (vrow vs).drop (p * 7) = vrow (vs.drop p) := by
  have e : vrow vs = vrow (vs.take p) ++ vrow (vs.drop p) := by rw [← vrow_append, List.take_append_drop]
  rw [e, List.drop_left' (by rw [vrow_len, List.length_take]; omega)]
/-- slices.Insert at a row of views. -/
theorem gIns_row {hp : Hp} {b b2 n p c2 : Nat} {vs : List ViewV} {z : ViewV} (hb : hp.get b = some (rowB vs)) (hb2 : hp.get b2 = some (.cells 34 (vc z) false)) (hne : Nat.beq b b2 = false) (hn : n = vs.length) (hp' : p ≤ n) (hl : n < 1000000) :
    gIns [newS b n, iN p, rowS b2 1 c2] hp = some (slS hp.sz 0 (n + 1) 23, heapOf ([rowB (vs.take p ++ z :: vs.drop p)] ++ [.dead]) (killL [b, b2] hp)) := by
  subst hn
  unfold rowB at hb
  have hcond : (Nat.beq 34 34 && Nat.beq (vrow vs).length (vs.length * 7) && Nat.beq (vc z).length 7 && Nat.ble p vs.length && Nat.blt vs.length 1000000 && (vrow vs).all inert && (vc z).all inert && (vrow vs).all isOne && (vc z).all isOne) = true := by
    rw [vrow_len, vrow_inert, vrow_one]
    simp only [Nat.beq_refl, Bool.true_and, Bool.and_true]
    rw [show Nat.ble p vs.length = true from Nat.ble_eq_true_of_le hp', show Nat.blt vs.length 1000000 = true by simpa [Nat.blt_eq] using hl]
    rfl
  unfold gIns newS iN rowS
  simp only [hb, hb2, hne, hcond, show Nat.beq 22 22 = true from rfl]
  congr 3
  unfold rowB
  rw [vrow_take hp', vrow_drop hp', vrow_append]
  have : vrow (z :: vs.drop p) = vc z ++ vrow (vs.drop p) := rfl
  rw [this, List.append_assoc]
section
variable {vs : List ViewV} {s : Value} {hp : Hp}
theorem c27_18 (h : TR vs s hp) : c27 vs 18 [s] hp = some (errI (rightB vs), heapOf [.dead] hp) := by
  show aCall Try.prog (E27 vs) 5 18 _ _ = _
  rw [aCall]
  have hE : E27 vs 18 = some fun _ args h => g18 vs args h := rfl
  rw [hE]
  exact g18_of (.inr h)
theorem c27_61 {b c : Nat} {o : Blk} (hb : hp.get b = some o) (hi : inertB o = true) (hr : vs = [] ∨ ∃ ty ro, o = .cells ty (vrow vs) ro) : c27 vs 61 [rowS b vs.length c] hp = some (newS hp.sz vs.length, heapOf [rowB vs, .dead] hp) := by
  show aCall Try.prog (E27 vs) 5 61 _ _ = _
  rw [aCall]
  have hE : E27 vs 61 = some fun _ args h => g61 vs args h := rfl
  rw [hE]
  exact g61_row hb hi hr
open Classical in
theorem c27_62 {id : Int} (h : TR vs s hp) : c27 vs 62 [s, .int .i64 id] hp = some (.tuple #[iN (pos vs id), .bool (fnd vs id)], heapOf [.dead] hp) := by
  show aCall Try.prog (E27 vs) 5 62 _ _ = _
  rw [aCall]
  have hE : E27 vs 62 = some fun _ args h => g62 vs args h := rfl
  rw [hE]
  show (if TR vs s hp then _ else _) = _
  rw [if_pos h]
  rfl
theorem c27_63 (args : List Value) : c27 vs 63 args hp = gIns args hp := by
  show aCall Try.prog (E27 vs) 5 63 _ _ = _
  rw [aCall]
  rfl
end
theorem E27_ok (vs : List ViewV) (hn : vs.length < 1000000) (hs : Rises vs) : ExtOk Try.prog (E27 vs) := extG_ok (extH_ok (.cons hk55 .nil)) (.cons (hk18 vs hn) (.cons (hk61 vs hn) (.cons (hk62 vs hn hs) (.cons hk63 .nil))))
noncomputable def E27b (vs : List ViewV) : Ext := extG (extH Try.prog [(55, g55)]) [(18, g18 vs)]
theorem E27b_ok (vs : List ViewV) (hn : vs.length < 1000000) : ExtOk Try.prog (E27b vs) := extG_ok (extH_ok (.cons hk55 .nil)) (.cons (hk18 vs hn) .nil)
noncomputable def c27b (vs : List ViewV) : CallF := aCall Try.prog (E27b vs) 5
theorem r27z (vs : List ViewV) (o : Blk) (n c : Nat) (y : ViewV) : (execE Try.prog (c27b vs) [] [(12, iN 1, [.dead])] [] 40 fb27 (B27 o n c y)).map (fun z => (look2 0 [] [6, 7] (z.1, z.2.1), z.2.2)) =
    some ((.ret, [], [(6, nilS), (7, iN 1)], true), [], [(c27b vs 18 [rowS 0 n c] (hS0 o y), (iN 1, heapOf [.dead] (hS0 o y)))], []) := by kernel_rfl
theorem c27b_18 {vs : List ViewV} {s : Value} {hp : Hp} (h : TR vs s hp) : c27b vs 18 [s] hp = some (errI (rightB vs), heapOf [.dead] hp) := by
  show aCall Try.prog (E27b vs) 5 18 _ _ = _
  rw [aCall]
  have hE : E27b vs 18 = some fun _ args h => g18 vs args h := rfl
  rw [hE]
  exact g18_of (.inr h)
/-- What Set's own frame ends with. -/
def EndsS (vs : List ViewV) (y : ViewV) (e : Exit) (st : St) : Prop :=
  e = .ret ∧ ((rightB vs && oneV y) = true ∧ (∃ g, st = stOf 42 g [(6, rowS 0 (setV vs y).length (bif fnd vs y.id then 22 else 23)), (7, iN 0)] [rowB (setV vs y)]) ∨ (rightB vs && oneV y) = false ∧ ∃ g, st = stOf 42 g [(6, nilS), (7, iN 1)] [])
theorem set_fr (o : Blk) (ho : inertB o = true) (vs : List ViewV) (hn : vs.length < 1000000) (hrow : vs = [] ∨ ∃ ty ro, o = .cells ty (vrow vs) ro) (c : Nat) (y : ViewV) (W : Base) :
    FRwp Try.prog 42 W fb27 (B27 o vs.length c y) (EndsS vs y) := by
  have g0 : (hS0 o y).get 0 = some o := by unfold hS0; rw [heapOf0_get]; rfl
  have hT0 : TR vs (rowS 0 vs.length c) (hS0 o y) := ⟨0, c, o, rfl, g0, ho, hrow⟩
  cases hr : rightB vs with
  | false =>
    have k := c27b_18 hT0
    rw [hr] at k
    exact FRwp.pieceY (aCall_sound (E27b_ok vs hn) follows 5) follows 0 _ _ _ _ (r27z vs o vs.length c y) Met.nil (MetH.cons k MetH.nil) MetE.nil s27 rfl rfl (noFix _) fun g => ⟨rfl, .inr ⟨by rw [hr]; rfl, g, rfl⟩⟩
  | true =>
    have hs := rises_of vs hr
    have hc : CallOk Try.prog (c27 vs) := aCall_sound (E27_ok vs hn hs) follows 5
    have k1 := c27_18 hT0
    rw [hr] at k1
    cases h17 : oneV y with
    | false =>
      exact FRwp.pieceY hc follows 0 _ _ _ _ (r27b vs o vs.length c y) (Met.cons (met_bool h17) Met.nil) (MetH.cons k1 MetH.nil) MetE.nil s27 rfl rfl (noFix _) fun g => ⟨rfl, .inr ⟨by rw [hr, h17]; rfl, g, rfl⟩⟩
    | true =>
      have sz0 : (hS0 o y).sz = 3 := rfl
      have g0' : (heapOf [.dead] (hS0 o y)).get 0 = some o := by rw [heapOf_get, sz0, if_pos (by omega), g0]
      have k2 := c27_61 (vs := vs) (c := c) g0' ho hrow
      have sz1 : (heapOf [.dead] (hS0 o y)).sz = 4 := rfl
      have g4 : (heapOf [rowB vs, .dead] (heapOf [.dead] (hS0 o y))).get 4 = some (rowB vs) := by rw [heapOf_get, sz1, if_neg (by omega)]; rfl
      have hT4 : TR vs (newS 4 vs.length) (heapOf [rowB vs, .dead] (heapOf [.dead] (hS0 o y))) := ⟨4, 22, rowB vs, rfl, g4, row_block vs, .inr ⟨34, false, rfl⟩⟩
      have k3 := c27_62 (id := y.id) hT4
      have sz2 : (heapOf [rowB vs, .dead] (heapOf [.dead] (hS0 o y))).sz = 6 := rfl
      have g4' : (hS2 vs o y).get 4 = some (rowB vs) := by unfold hS2; rw [heapOf_get, sz2, if_pos (by omega), g4]
      have hple := pos_le vs y.id
      have hfix : ∀ (us : List ViewV) (i : Nat), i < 1 → ∀ o', [rowB us][i]? = some o' → Fixed 0 o' := fun us => fix1 us []
      cases hf : fnd vs y.id with
      | true =>
        obtain ⟨x, hx, hid⟩ := fnd_some hf
        have hlt : pos vs y.id < vs.length := (List.getElem?_eq_some_iff.1 hx).1
        rw [hf] at k3
        refine FRwp.pieceY hc follows 1 _ _ _ _ (r27c vs (vs.set (pos vs y.id) y) o vs.length c (pos vs y.id) y) (Met.cons (met_bool h17) (Met.cons (vidx_ok hlt) Met.nil)) (MetH.cons k1 (MetH.cons k2 (MetH.cons k3 MetH.nil))) (MetE.cons (store23 g4' hx hid) MetE.nil) s27 rfl rfl (hfix _) fun g => ⟨rfl, .inl ⟨by rw [hr, h17]; rfl, g, ?_⟩⟩
        have e1 : setV vs y = vs.set (pos vs y.id) y := by unfold setV; rw [hf]; rfl
        rw [e1, List.length_set, hf]
        rfl
      | false =>
        rw [hf] at k3
        have hus : ((vs.take (pos vs y.id) ++ zeroV y.id :: vs.drop (pos vs y.id))).length = vs.length + 1 := by simp; omega
        have hget : (vs.take (pos vs y.id) ++ zeroV y.id :: vs.drop (pos vs y.id))[pos vs y.id]? = some (zeroV y.id) := by
          rw [List.getElem?_append_right (by simp; omega)]
          have : pos vs y.id - (vs.take (pos vs y.id)).length = 0 := by simp; omega
          rw [this]; rfl
        have szS2 : (hS2 vs o y).sz = 7 := rfl
        have g34 : (hS3 vs o y).get 4 = some (rowB vs) := by unfold hS3; rw [Hp.get_push, szS2, if_neg (by omega), g4']
        have g37 : (hS3 vs o y).get 7 = some (.cells 34 (vc (zeroV y.id)) false) := by unfold hS3; rw [Hp.get_push, szS2, if_pos rfl]
        have k4 : c27 vs 63 [newS 4 vs.length, iN (pos vs y.id), rowS 7 1 22] (hS3 vs o y) = some (slS 8 0 (vs.length + 1) 23, hS4 vs (vs.take (pos vs y.id) ++ zeroV y.id :: vs.drop (pos vs y.id)) o y) := by
          rw [c27_63]
          exact gIns_row g34 g37 rfl rfl hple hn
        have szS3 : (hS3 vs o y).sz = 8 := rfl
        have g48 : (hS4 vs (vs.take (pos vs y.id) ++ zeroV y.id :: vs.drop (pos vs y.id)) o y).get 8 = some (rowB (vs.take (pos vs y.id) ++ zeroV y.id :: vs.drop (pos vs y.id))) := by
          unfold hS4
          rw [heapOf_get, killL_sz, szS3, if_neg (by omega)]
          rfl
        refine FRwp.pieceY hc follows 1 _ _ _ _ (r27d vs ((vs.take (pos vs y.id) ++ zeroV y.id :: vs.drop (pos vs y.id)).set (pos vs y.id) y) (vs.take (pos vs y.id) ++ zeroV y.id :: vs.drop (pos vs y.id)) o vs.length c (pos vs y.id) y) (Met.cons (met_bool h17) (Met.cons (vidx_ok (by omega)) Met.nil))
          (MetH.cons k1 (MetH.cons k2 (MetH.cons k3 (MetH.cons k4 MetH.nil)))) (MetE.cons (store23 g48 hget rfl) MetE.nil) s27 rfl rfl (hfix _) fun g => ⟨rfl, .inl ⟨by rw [hr, h17]; rfl, g, ?_⟩⟩
        have e1 : setV vs y = (vs.take (pos vs y.id) ++ zeroV y.id :: vs.drop (pos vs y.id)).set (pos vs y.id) y := by
          unfold setV
          rw [hf, List.set_append_right _ _ (by simp; omega)]
          have : pos vs y.id - (vs.take (pos vs y.id)).length = 0 := by simp; omega
          rw [this]
          rfl
        rw [e1, List.length_set, hus, hf]
        rfl
theorem set_nil (y : ViewV) (W : Base) : FRwp Try.prog 42 W fb27 ⟨tmsOf [nilS, .int .i64 y.id, hcA y] 0 .leaf, heapOf [.dead] hp0, []⟩
      (fun e st => e = .ret ∧ (oneV y = true ∧ (∃ g, st = stOf 42 g [(6, newS 0 1), (7, iN 0)] [rowB [y]]) ∨ oneV y = false ∧ ∃ g, st = stOf 42 g [(6, nilS), (7, iN 1)] [])) := by
  cases h17 : oneV y with
  | false => exact FRwp.pieceY c27n_ok follows 0 _ _ _ _ (r27e y) (Met.cons (met_bool h17) Met.nil) MetH.nil MetE.nil s27 rfl rfl (noFix _) fun g => ⟨rfl, .inr ⟨rfl, g, rfl⟩⟩
  | true => exact FRwp.pieceY c27n_ok follows 1 _ _ _ _ (r27f y) (Met.cons (met_bool h17) Met.nil) MetH.nil MetE.nil s27 rfl rfl (fix1 [y] []) fun g => ⟨rfl, .inl ⟨rfl, g, rfl⟩⟩
end Go.Proofs.Ytiogdklmhpllfaa.LtA
namespace Go.Proofs.Ytiogdklmhpllfaa.LtA
open Go Go.Proofs Go.Proofs.Ytiogdklmhpllfaa.AI Go.RowKit

def setC (s : Value) (vs : List ViewV) (id : Int) : Nat := match s with
  | .slice none _ _ => 22
  | _ => bif fnd vs id then 22 else 23
open Classical in
noncomputable def g27 (vs : List ViewV) : HeapFn := fun args hp => match args with
  | [s, .int .i64 id, .agg cs] => match cs.toList with
    | [.bool n, .int .i64 t, .int .i64 o, .int .i64 r, .int .i64 d, .int .i64 i] =>
      if TN vs s hp then (match rightB vs && oneV ⟨id, n, t, o, r, d, i⟩ with
        | true => some (.tuple #[rowS hp.sz (setV vs ⟨id, n, t, o, r, d, i⟩).length (setC s vs id), iN 0], heapOf ([rowB (setV vs ⟨id, n, t, o, r, d, i⟩)] ++ [.dead]) hp)
        | false => some (.tuple #[nilS, iN 1], heapOf ([] ++ [.dead]) hp))
      else none
    | _ => none
  | _ => none
open Classical in
theorem g27_of {vs : List ViewV} {s : Value} {hp : Hp} (y : ViewV) (h : TN vs s hp) : g27 vs [s, .int .i64 y.id, hcA y] hp = match rightB vs && oneV y with
    | true => some (.tuple #[rowS hp.sz (setV vs y).length (setC s vs y.id), iN 0], heapOf [rowB (setV vs y), .dead] hp)
    | false => some (.tuple #[nilS, iN 1], heapOf [.dead] hp) := by
  show (if TN vs s hp then _ else _) = _
  rw [if_pos h]
  rfl
theorem row_fin {N : Nat} {us : List ViewV} {v : Value} {t : Nat} {L : List (Nat × Value)} {g : Nat → Value} : (stOf N g L [rowB us]).hp.get 0 = some (rowB us) := by
  show (heapOf _ hp0).get 0 = _
  rw [heapOf0_get]; rfl
theorem out_row {B : Nat} {us : List ViewV} {hp : Hp} (h : hp.get 0 = some (rowB us)) : [rowB us] = outOf [0] B hp := by
  simp only [outOf, List.map_cons, List.map_nil, h, Option.getD_some]
  exact congrArg (fun z => [z]) (inert_shBlk (o := rowB us) (row_block _) [0] B).symm
theorem hk27 (vs : List ViewV) (hn : vs.length < 1000000) : CallGoal Try.prog 27 (g27 vs) := scan_goal follows Try.func27 body27 (by kernel_rfl) fun args hp v hp' h hk => by
  unfold g27 at h
  rw [ntmps27]
  split at h
  case h_2 => cases h
  rename_i s id cs
  split at h
  case h_2 => cases h
  rename_i n t o r d i hcs
  obtain rfl := arr_of hcs
  generalize hy : (⟨id, n, t, o, r, d, i⟩ : ViewV) = y at h
  have ea : .int .i64 id = Value.int .i64 y.id := by rw [← hy]
  have eh : Value.agg [.bool n, .int .i64 t, .int .i64 o, .int .i64 r, .int .i64 d, .int .i64 i].toArray = hcA y := by rw [← hy]; rfl
  have eid : y.id = id := by rw [← hy]
  rw [ea, eh]
  split at h
  case isFalse => cases h
  rename_i hT
  have okB : ∀ {st : St} (us : List ViewV), st.hp.get 0 = some (rowB us) → ∀ b ∈ [0], ∃ o, st.hp.get b = some o ∧ okBlk o = true ∧ rwB o = true := fun us hg b' hb' => by
    have : b' = 0 := by simpa using hb'
    subst this
    exact ⟨_, hg, ok2_inert (row_block _), rfl⟩
  rcases hT with ⟨rfl, rfl⟩ | hT
  · have e1 : [nilS, .int .i64 y.id, hcA y].map (sh3 [] 0) = [nilS, .int .i64 y.id, hcA y] := by simp [sh3, sh2, sh1, nilS, hcA]
    have hsv : setV [] y = [y] := rfl
    split at h
    · rename_i hro
      cases h
      refine ⟨[], [0], [rowB (setV [] y)], rfl, rfl, rfl, rfl, (fun b hb => by cases hb), rfl, (by simp), fun W => ?_⟩
      rw [e1]
      refine FRwp.mono (set_nil y W) fun e st q => ?_
      obtain ⟨rfl, ⟨-, g, rfl⟩ | ⟨h2, -⟩⟩ := q
      · have hg := row_fin (N := 42) (us := [y]) (v := nilS) (t := 0) (L := [(6, newS 0 1), (7, iN 0)]) (g := g)
        refine ⟨.inr rfl, rfl, _, q27 _ _ _ g, rfl, okB [y] hg, ?_, ?_⟩
        · simp [sh3, sh2, sh1, rho, idxOf, newS, rowS, setC, nilS, hsv, iN]
        · rw [hsv]; exact out_row hg
      · rw [h2, Bool.and_false] at hro; cases hro
    · rename_i hro
      cases h
      refine ⟨[], [], [], rfl, rfl, rfl, rfl, (fun b hb => by cases hb), rfl, (by simp), fun W => ?_⟩
      rw [e1]
      refine FRwp.mono (set_nil y W) fun e st q => ?_
      obtain ⟨rfl, ⟨h2, -⟩ | ⟨-, g, rfl⟩⟩ := q
      · rw [h2, show rightB [] = true from rfl] at hro; cases hro
      · exact ⟨.inr rfl, rfl, _, q27 _ _ _ g, rfl, (fun b hb => by cases hb), by simp [sh3, sh2, sh1, nilS, iN], rfl⟩
  · obtain ⟨b, c, ob, rfl, hb, hi, hr⟩ := hT
    have e1 : [rowS b vs.length c, .int .i64 y.id, hcA y].map (sh3 [b] 0) = [rowS 0 vs.length c, .int .i64 y.id, hcA y] := by simp [sh3, sh2, sh1, rho, idxOf, rowS, hcA]
    have hst : ∀ b' ∈ [b], ∃ o, hp.get b' = some o ∧ startOk o = true := fun b' hb' => by
      have : b' = b := by simpa using hb'
      subst this
      exact ⟨ob, hb, inert_start hi⟩
    split at h
    · rename_i hro
      cases h
      refine ⟨[b], [0], [rowB (setV vs y)], rfl, rfl, rfl, rfl, hst, rfl, (by simp), fun W => ?_⟩
      rw [e1, start1 hb hi]
      refine FRwp.mono (set_fr (roBlk ob) (ro_inert hi) vs hn (ro_row hr) c y W) fun e st q => ?_
      obtain ⟨rfl, ⟨-, g, rfl⟩ | ⟨h2, -⟩⟩ := q
      · have hg := row_fin (N := 42) (us := setV vs y) (v := nilS) (t := 0) (L := [(6, rowS 0 (setV vs y).length (bif fnd vs y.id then 22 else 23)), (7, iN 0)]) (g := g)
        refine ⟨.inr rfl, rfl, _, q27 _ _ _ g, rfl, okB _ hg, ?_, out_row hg⟩
        simp [sh3, sh2, sh1, rho, idxOf, rowS, setC, iN, eid]
      · rw [h2] at hro; cases hro
    · rename_i hro
      cases h
      refine ⟨[b], [], [], rfl, rfl, rfl, rfl, hst, rfl, (by simp), fun W => ?_⟩
      rw [e1, start1 hb hi]
      refine FRwp.mono (set_fr (roBlk ob) (ro_inert hi) vs hn (ro_row hr) c y W) fun e st q => ?_
      obtain ⟨rfl, ⟨h2, -⟩ | ⟨-, g, rfl⟩⟩ := q
      · rw [h2] at hro; cases hro
      · exact ⟨.inr rfl, rfl, _, q27 _ _ _ g, rfl, (fun b hb => by cases hb), by simp [sh3, sh2, sh1, nilS, iN], rfl⟩

/-! ### Plain facts -/
abbrev Up (vs : List ViewV) : Prop := vs.Pairwise fun u v => u.id < v.id
theorem rises_up {vs : List ViewV} : Rises vs ↔ Up vs := by
  constructor
  · intro h
    refine List.pairwise_iff_getElem.2 fun i j hi hj hij => h i j _ _ hij (List.getElem?_eq_getElem hi) (List.getElem?_eq_getElem hj)
  · intro h i j u v hij hu hv
    obtain ⟨hi, rfl⟩ := List.getElem?_eq_some_iff.1 hu
    obtain ⟨hj, rfl⟩ := List.getElem?_eq_some_iff.1 hv
    exact List.pairwise_iff_getElem.1 h i j hi hj hij
theorem right_iff {vs : List ViewV} : rightB vs = true ↔ (∀ x ∈ vs, oneV x = true) ∧ Up vs := by
  constructor
  · intro h
    refine ⟨fun x hx => ?_, rises_up.1 (rises_of vs h)⟩
    obtain ⟨i, hi⟩ := List.mem_iff_getElem?.1 hx
    exact right_one h hi
  · rintro ⟨h1, h2⟩
    have hr := rises_up.2 h2
    refine rightB_of fun j hj => ?_
    have hx : vs[j]? = some vs[j] := List.getElem?_eq_getElem hj
    unfold rightAt
    rw [hx]
    simp only [h1 _ (List.getElem_mem hj), Bool.true_and]
    cases j with
    | zero => rfl
    | succ j =>
      have hu : vs[j]? = some vs[j] := List.getElem?_eq_getElem (by omega)
      simp only [hu]
      exact decide_eq_true (hr j (j + 1) _ _ (by omega) hu hx)
/-- Below, itself, above. -/
def setF (vs : List ViewV) (y : ViewV) : List ViewV := vs.filter (fun x => decide (x.id < y.id)) ++ y :: vs.filter (fun x => decide (y.id < x.id))
theorem setV_eq {y : ViewV} : ∀ {vs : List ViewV}, Up vs → setV vs y = setF vs y
  | [], _ => rfl
  | u :: vs, h => by
    have ih := setV_eq (y := y) (List.pairwise_cons.1 h).2
    have hu := (List.pairwise_cons.1 h).1
    rcases Int.lt_trichotomy u.id y.id with h1 | h1 | h1
    · have hp : pos (u :: vs) y.id = pos vs y.id + 1 := by unfold pos; rw [List.takeWhile_cons, if_pos (by simpa using h1)]; rfl
      have hf : fnd (u :: vs) y.id = fnd vs y.id := by unfold fnd; rw [hp]; rfl
      have e1 : setV (u :: vs) y = u :: setV vs y := by
        unfold setV
        rw [hp, hf]
        cases fnd vs y.id <;> rfl
      rw [e1, ih]
      unfold setF
      rw [List.filter_cons_of_pos (by simpa using h1), List.filter_cons_of_neg (by simp; omega)]
      rfl
    · have hp : pos (u :: vs) y.id = 0 := by unfold pos; rw [List.takeWhile_cons, if_neg (by simp; omega)]; rfl
      have hf : fnd (u :: vs) y.id = true := by unfold fnd; rw [hp]; simp [h1]
      have e1 : setV (u :: vs) y = y :: vs := by unfold setV; rw [hp, hf]; rfl
      rw [e1]
      unfold setF
      rw [List.filter_cons_of_neg (by simp; omega), List.filter_cons_of_neg (by simp; omega), List.filter_eq_nil_iff.2 (fun x hx => by have := hu x hx; simp; omega), List.filter_eq_self.2 (fun x hx => by have := hu x hx; simp; omega)]
      rfl
    · have hp : pos (u :: vs) y.id = 0 := by unfold pos; rw [List.takeWhile_cons, if_neg (by simp; omega)]; rfl
      have hf : fnd (u :: vs) y.id = false := by unfold fnd; rw [hp]; simp; omega
      have e1 : setV (u :: vs) y = y :: u :: vs := by unfold setV; rw [hp, hf]; rfl
      rw [e1]
      unfold setF
      rw [List.filter_cons_of_neg (by simp; omega), List.filter_cons_of_pos (by simpa using h1), List.filter_eq_nil_iff.2 (fun x hx => by have := hu x hx; simp; omega), List.filter_eq_self.2 (fun x hx => by have := hu x hx; simp; omega)]
      rfl
theorem setF_up {vs : List ViewV} {y : ViewV} (h : Up vs) : Up (setF vs y) := by
  unfold setF
  refine List.pairwise_append.2 ⟨h.filter _, List.pairwise_cons.2 ⟨fun x hx => ?_, h.filter _⟩, fun u hu v hv => ?_⟩
  · simpa using (List.mem_filter.1 hx).2
  · have h1 : u.id < y.id := by simpa using (List.mem_filter.1 hu).2
    rcases List.mem_cons.1 hv with rfl | hv
    · exact h1
    · have h2 : y.id < v.id := by simpa using (List.mem_filter.1 hv).2
      omega
theorem mem_setF {vs : List ViewV} {y x : ViewV} : x ∈ setF vs y ↔ x = y ∨ (x ∈ vs ∧ x.id ≠ y.id) := by
  unfold setF
  simp only [List.mem_append, List.mem_cons, List.mem_filter, decide_eq_true_eq]
  constructor
  · rintro (⟨h1, h2⟩ | rfl | ⟨h1, h2⟩)
    · exact .inr ⟨h1, by omega⟩
    · exact .inl rfl
    · exact .inr ⟨h1, by omega⟩
  · rintro (rfl | ⟨h1, h2⟩)
    · exact .inr (.inl rfl)
    · rcases Int.lt_trichotomy x.id y.id with h | h | h
      · exact .inl ⟨h1, h⟩
      · exact absurd h h2
      · exact .inr (.inr ⟨h1, h⟩)
theorem setV_right {vs : List ViewV} {y : ViewV} (h : rightB vs = true) (hy : oneV y = true) : rightB (setV vs y) = true := by
  obtain ⟨h1, h2⟩ := right_iff.1 h
  rw [setV_eq h2]
  refine right_iff.2 ⟨fun x hx => ?_, setF_up h2⟩
  rcases mem_setF.1 hx with rfl | ⟨hx, -⟩
  · exact hy
  · exact h1 x hx
theorem up_ext : ∀ {us vs : List ViewV}, Up us → Up vs → (∀ x, x ∈ us ↔ x ∈ vs) → us = vs
  | [], [], _, _, _ => rfl
  | [], v :: vs, _, _, h => by have := (h v).2 (.head _); cases this
  | u :: us, [], _, _, h => by have := (h u).1 (.head _); cases this
  | u :: us, v :: vs, h1, h2, h => by
    obtain ⟨a1, b1⟩ := List.pairwise_cons.1 h1
    obtain ⟨a2, b2⟩ := List.pairwise_cons.1 h2
    have e : u = v := by
      rcases List.mem_cons.1 ((h u).1 (.head _)) with e | hu
      · exact e
      · rcases List.mem_cons.1 ((h v).2 (.head _)) with e | hv
        · exact e.symm
        · have := a2 u hu
          have := a1 v hv
          omega
    subst e
    rw [up_ext b1 b2 fun x => ?_]
    constructor
    · intro hx
      rcases List.mem_cons.1 ((h x).1 (.tail _ hx)) with rfl | hx'
      · have := a1 x hx; omega
      · exact hx'
    · intro hx
      rcases List.mem_cons.1 ((h x).2 (.tail _ hx)) with rfl | hx'
      · have := a2 x hx; omega
      · exact hx'
end Go.Proofs.Ytiogdklmhpllfaa.LtA
