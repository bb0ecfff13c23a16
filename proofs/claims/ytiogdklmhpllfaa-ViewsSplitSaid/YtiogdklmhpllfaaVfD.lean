/- ViewsForget: the rounds of its loop. -/
import Derived.Test.YtiogdklmhpllfaaVfC
import Derived.Test.YtiogdklmhpllfaaRows
set_option linter.unusedVariables false
set_option linter.unusedSimpArgs false
set_option maxRecDepth 100000
namespace Go.Proofs.Ytiogdklmhpllfaa.LtA
open Go Go.Proofs Go.Proofs.Ytiogdklmhpllfaa.AI Go.RowKit

def hcA (x : ViewV) : Value := .agg #[.bool x.n, .int .i64 x.t, .int .i64 x.o, .int .i64 x.r, .int .i64 x.d, .int .i64 x.i]
def pb (b off : Nat) : Value := .pointer (some ⟨b, off, none⟩)
section
variable (o : Blk) (vs ms : List ViewV) (n c : Nat) (lt lo lr keep : Int) (i : Nat) (x y : ViewV) (g : Nat → Value)
noncomputable abbrev G6 : Nat → Option Blk := (heapOf ([o, rowB ms, lvB lt lo lr] ++ [.dead]) hp0).get
def ordX (lt lo lr : Int) (x : ViewV) : Int := ord3 (lev0 x.n x.t x.o x.r x.d x.i) (lev1 x.n x.t x.o x.r x.d x.i) (lev2 x.n x.t x.o x.r x.d x.i) lt lo lr
noncomputable def ixO (b n c : Nat) (i : Nat) : Obl := (fstV ((aIndexAddr Try.prog 29 (rowS b n c) (iN i)).map fun v => (v, none)), pb b (i * 7))
noncomputable def ldO (G : Nat → Option Blk) (t : TypeId) (b off : Nat) (v : Value) : Obl := (aLoad Try.prog G t (pb b off), v)
noncomputable def endO : List Obl := [ixO 1 n 22 i, ldO (G6 o ms lt lo lr) 34 1 (i * 7) (.agg ⟨vc y⟩), ixO 0 n c i, ldO (G6 o ms lt lo lr) 34 0 (i * 7) (.agg ⟨vc x⟩), (fstV ((aBin Try.prog .neq 34 (.agg ⟨vc y⟩) (.agg ⟨vc x⟩)).map fun v => (v, none)), .bool false), nxt29 i]
def endC (i : Nat) (x y : ViewV) : List (Tmp × Value) := [(82, pb 1 (i * 7)), (83, .agg ⟨vc y⟩), (86, pb 0 (i * 7)), (87, .agg ⟨vc x⟩), (88, .bool false), (33, iN (i + 1))]
noncomputable def begO : List Obl := [(some (.bool (decide (Int.ofNat i < Int.ofNat n))), .bool true)]
def begC (i : Nat) (x : ViewV) (b : Bool) : List (Tmp × Value) := [(31, .bool true), (36, pb 0 (i * 7)), (39, .bool x.n), (40, .bool b)]
/-- One that is Null. -/
theorem r6N : (execE Try.prog (c7 vs ms) (begC i x false ++ endC i x y) [] [] 30 c6f (L6 o ms n c lt lo lr keep i g)).map (fun y => (look2 2 [0, 1, 2] [0, 2, 4, 6, 7, 8] (y.1, y.2.1), y.2.2)) =
    some ((.normal, [o, rowB ms, lvB lt lo lr], [(0, rowS 0 n c), (2, .int .i64 keep), (4, p2), (6, .bool false), (7, newS 1 n), (8, iN (i + 1))], true), begO n i ++ ([ixO 0 n c i, ldO (G6 o ms lt lo lr) 4 0 (i * 7 + 1) (.bool x.n), (some (.bool (!x.n)), .bool false)] ++ endO o ms n c lt lo lr i x y), [], []) := by kernel_rfl
def midC (i : Nat) (x : ViewV) (b : Bool) : List (Tmp × Value) := [(44, pb 0 (i * 7)), (46, hcA x), (50, .bool b)]
noncomputable def midO (b : Bool) : List Obl := [(some (levA lt lo lr), levA lt lo lr), ixO 0 n c i, ldO (G6 o ms lt lo lr) 4 0 (i * 7 + 1) (.bool x.n), (some (.bool (!x.n)), .bool true), ixO 0 n c i, ldO (G6 o ms lt lo lr) 23 0 (i * 7 + 1) (hcA x), (some (.bool (ordX lt lo lr x == 0)), .bool b)]
/-- One at another level. -/
theorem r6L : (execE Try.prog (c7 vs ms) (begC i x true ++ (midC i x false ++ endC i x y)) [] [] 30 c6f (L6 o ms n c lt lo lr keep i g)).map (fun y => (look2 2 [0, 1, 2] [0, 2, 4, 6, 7, 8] (y.1, y.2.1), y.2.2)) =
    some ((.normal, [o, rowB ms, lvB lt lo lr], [(0, rowS 0 n c), (2, .int .i64 keep), (4, p2), (6, .bool false), (7, newS 1 n), (8, iN (i + 1))], true), begO n i ++ (midO o ms n c lt lo lr i x false ++ endO o ms n c lt lo lr i x y), [], []) := by kernel_rfl
/-- The one that is kept. -/
theorem r6K : (execE Try.prog (c7 vs ms) (begC i x true ++ (midC i x true ++ ([(55, pb 0 (i * 7)), (57, .int .i64 x.id), (59, .bool false)] ++ endC i x y))) [] [] 30 c6f (L6 o ms n c lt lo lr keep i g)).map (fun y => (look2 2 [0, 1, 2] [0, 2, 4, 6, 7, 8] (y.1, y.2.1), y.2.2)) =
    some ((.normal, [o, rowB ms, lvB lt lo lr], [(0, rowS 0 n c), (2, .int .i64 keep), (4, p2), (6, .bool false), (7, newS 1 n), (8, iN (i + 1))], true), begO n i ++ (midO o ms n c lt lo lr i x true ++ ([ixO 0 n c i, ldO (G6 o ms lt lo lr) 3 0 (i * 7) (.int .i64 x.id), (some (.bool (x.id != keep)), .bool false)] ++ endO o ms n c lt lo lr i x y)), [], []) := by kernel_rfl
/-- One at the level. -/
theorem r6A : (execE Try.prog (c7 vs ms) (begC i x true ++ (midC i x true ++ [(55, pb 0 (i * 7)), (57, .int .i64 x.id), (59, .bool true), (65, pb 1 (i * 7)), (67, hcA y), (70, pb 0 (i * 7)), (72, .int .i64 x.id), (74, .bool false), (33, iN (i + 1))])) [] [] 30 c6f (L6 o ms n c lt lo lr keep i g)).map (fun y => (look2 2 [0, 1, 2] [0, 2, 4, 6, 7, 8] (y.1, y.2.1), y.2.2)) =
    some ((.normal, [o, rowB ms, lvB lt lo lr], [(0, rowS 0 n c), (2, .int .i64 keep), (4, p2), (6, .bool false), (7, newS 1 n), (8, iN (i + 1))], true), begO n i ++ (midO o ms n c lt lo lr i x true ++ ([ixO 0 n c i, ldO (G6 o ms lt lo lr) 3 0 (i * 7) (.int .i64 x.id), (some (.bool (x.id != keep)), .bool true)] ++
      [ldO (G6 o ms lt lo lr) 23 1 (i * 7 + 1) (hcA y), ixO 1 n 22 i, ldO (G6 o ms lt lo lr) 23 1 (i * 7 + 1) (hcA y), ixO 0 n c i, ldO (G6 o ms lt lo lr) 3 0 (i * 7) (.int .i64 x.id), (fstV ((aBin Try.prog .neq 23 (hcA y) (tNull x.id)).map fun v => (v, none)), .bool false), nxt29 i])), [], []) := by kernel_rfl
end
end Go.Proofs.Ytiogdklmhpllfaa.LtA
namespace Go.Proofs.Ytiogdklmhpllfaa.LtA
open Go Go.Proofs Go.Proofs.Ytiogdklmhpllfaa.AI Go.RowKit

/-! ### Plain facts -/
theorem cmp3_zero (a b : Int) : (cmp3 a b == 0) = (a == b) := by
  unfold cmp3
  cases h1 : decide (a < b) with
  | true => simp at h1; rw [show (a == b) = false from beq_false_of_ne (by omega)]; rfl
  | false =>
    simp at h1
    cases h2 : decide (a > b) with
    | true => simp at h2; rw [show (a == b) = false from beq_false_of_ne (by omega)]; rfl
    | false => simp at h2; rw [show a = b by omega]; simp
theorem or3_zero (x y z : Int) : (or3 x y z == 0) = ((x == 0) && ((y == 0) && (z == 0))) := by
  unfold or3
  cases hx : (x == 0) with
  | false => simp [hx]
  | true =>
    cases hy : (y == 0) with
    | false => simp [hy]
    | true => simp
theorem ordX_zero (lt lo lr : Int) (x : ViewV) : (ordX lt lo lr x == 0) = levEq lt lo lr x := by
  unfold ordX ord3 levEq
  rw [or3_zero, cmp3_zero, cmp3_zero, cmp3_zero, Bool.and_true]
theorem same23_refl (n : Bool) (t o r d i : Int) : same23 n t o r d i n t o r d i = true := by unfold same23; simp
theorem sameV_refl (x : ViewV) : sameV x x = true := by unfold sameV; rw [same23_refl]; simp
theorem alikeAt_refl (us : List ViewV) (i : Nat) : alikeAt us us i = true := by
  unfold alikeAt
  cases us[i]? with
  | none => rfl
  | some u => exact sameV_refl u
theorem sameRow_refl (us : List ViewV) : sameRow us us = true := by
  unfold sameRow
  rw [Bool.and_eq_true]
  exact ⟨decide_eq_true rfl, List.all_eq_true.2 fun i _ => alikeAt_refl us i⟩
section
variable {lt lo lr keep : Int} {vs : List ViewV}
theorem right_one (h : rightB vs = true) {i : Nat} {x : ViewV} (hx : vs[i]? = some x) : oneV x = true := by
  have hi : i < vs.length := (List.getElem?_eq_some_iff.1 hx).1
  have := List.all_eq_true.1 h i (List.mem_range.2 hi)
  unfold rightAt at this
  rw [hx] at this
  exact (Bool.and_eq_true_iff.1 this).1
theorem one_facts {x : ViewV} (h : oneV x = true) : x.id ≥ 0 ∧ x.id < 64 ∧ x.i = x.id ∧ okH x.n x.t x.o x.r x.d x.i = true := by
  unfold oneV oneB at h
  rw [chk_zero] at h
  simp only [Bool.and_eq_true, decide_eq_true_eq, beq_iff_eq] at h
  exact h
theorem told_of {x : ViewV} (h : oneV x = true) : told x.n x.t x.o x.r x.d x.i = !x.n := by
  unfold told known
  rw [(one_facts h).2.2.2, Bool.and_true]
theorem null_one {x : ViewV} (h : oneV x = true) : oneV (nullV x) = true := by
  obtain ⟨h1, h2, h3, _⟩ := one_facts h
  unfold oneV oneB nullV
  rw [chk_zero]
  simp only [Bool.and_eq_true, decide_eq_true_eq, beq_iff_eq]
  refine ⟨h1, h2, h3, ?_⟩
  unfold okH
  rw [same23_refl]
  simp only [cond_true, Bool.and_eq_true, decide_eq_true_eq, Bool.and_true]
  omega
theorem fgt_id (x : ViewV) : (fgt lt lo lr keep x).id = x.id := by
  unfold fgt; cases isAt lt lo lr keep x <;> rfl
theorem fgt_one {x : ViewV} (h : oneV x = true) : oneV (fgt lt lo lr keep x) = true := by
  unfold fgt
  cases isAt lt lo lr keep x with
  | true => exact null_one h
  | false => exact h
theorem fgt_fgt (x : ViewV) : fgt lt lo lr keep (fgt lt lo lr keep x) = fgt lt lo lr keep x := by
  unfold fgt
  cases h : isAt lt lo lr keep x with
  | false => simp only [cond_false, h]
  | true =>
    have : isAt lt lo lr keep (nullV x) = false := by
      unfold isAt told known nullV
      simp
    simp only [cond_true, this, cond_false]
theorem fgt_map : (vs.map (fgt lt lo lr keep)).map (fgt lt lo lr keep) = vs.map (fgt lt lo lr keep) := by
  rw [List.map_map]
  exact List.map_congr_left fun x _ => fgt_fgt x
theorem fgt_right (h : rightB vs = true) : rightB (vs.map (fgt lt lo lr keep)) = true := by
  refine rightB_of fun j hj => ?_
  rw [List.length_map] at hj
  have hr := List.all_eq_true.1 h j (List.mem_range.2 hj)
  have hx : vs[j]? = some vs[j] := List.getElem?_eq_getElem hj
  unfold rightAt at hr ⊢
  rw [List.getElem?_map, hx]
  rw [hx] at hr
  simp only [Option.map_some] at hr ⊢
  obtain ⟨h1, h2⟩ := Bool.and_eq_true_iff.1 hr
  rw [fgt_one h1, Bool.true_and]
  cases j with
  | zero => rfl
  | succ j =>
    simp only at h2 ⊢
    rw [List.getElem?_map]
    cases hu : vs[j]? with
    | none => rfl
    | some u =>
      rw [hu] at h2
      simp only [Option.map_some] at h2 ⊢
      rw [fgt_id, fgt_id]
      exact h2
end
/-! ### The law's frame -/
theorem neq23_null {x : ViewV} : fstV ((aBin Try.prog .neq 23 (hcA (nullV x)) (tNull x.i)).map fun v => (v, none)) = some (.bool false) := by
  have h : aBin Try.prog .neq 23 (hcA (nullV x)) (tNull x.i) =
      (andE (true == true) (andE ((0 : Int) == 0) (andE ((0 : Int) == 0) (andE ((0 : Int) == 0) (andE ((0 : Int) == 0) (andE (x.i == x.i) (some true))))))).map fun b => .bool (!b) := by kernel_rfl
  rw [h]
  simp only [andE_some]
  simp [fstV]
theorem agg23 : tagg Try.prog 23 = some true := by kernel_rfl
theorem agg4 : tagg Try.prog 4 = some false := by kernel_rfl
theorem size4 : tsize Try.prog 4 = some 1 := by kernel_rfl
section
variable {hp : Hp} {b : Nat} {us : List ViewV} {i : Nat} {p : ViewV}
theorem hload_ok (ho : RowAt hp b us) (h : us[i]? = some p) : aLoad Try.prog hp.get 23 (pb b (i * 7 + 1)) = some (hcA p) := by
  obtain ⟨ty, ro, rest, hg⟩ := ho
  unfold pb
  simp only [aLoad, hg, agg23, size23]
  have hi : i < us.length := (List.getElem?_eq_some_iff.1 h).1
  have hl := vrow_len us
  have e : ((vrow us).drop (i * 7 + 1)).take 6 = [.bool p.n, .int .i64 p.t, .int .i64 p.o, .int .i64 p.r, .int .i64 p.d, .int .i64 p.i] := by
    apply List.ext_getElem?
    intro j
    rw [List.getElem?_take]
    by_cases hj : j < 6
    · rw [if_pos hj, List.getElem?_drop, Nat.add_assoc]
      unfold vrow
      rw [flat_get vc 7 us (fun _ _ => rfl) i (1 + j) p h (by omega), Nat.add_comm 1 j]
      rfl
    · rw [if_neg hj, List.getElem?_eq_none (by simp; omega)]
  rw [getR_app (r := [.bool p.n, .int .i64 p.t, .int .i64 p.o, .int .i64 p.r, .int .i64 p.d, .int .i64 p.i]) (by unfold getR; rw [e]; rfl)]
  rfl
theorem bload_ok (ho : RowAt hp b us) (h : us[i]? = some p) : aLoad Try.prog hp.get 4 (pb b (i * 7 + 1)) = some (.bool p.n) := by
  obtain ⟨ty, ro, rest, hg⟩ := ho
  unfold pb
  simp only [aLoad, hg, agg4, size4]
  have := flat_get vc 7 us (fun _ _ => rfl) i 1 p h (by omega)
  unfold vrow
  rw [get_app this]
end
theorem fix2 {o : Blk} (ho : inertB o = true) (us : List ViewV) : ∀ r : List Blk, ∀ i, i < 2 → ∀ o', (o :: rowB us :: r)[i]? = some o' → Fixed 0 o' := by
  intro r i hi o' h
  match i, hi with
  | 0, _ => simp at h; subst h; exact inert_fixed ho 0
  | 1, _ => simp at h; subst h; exact inert_fixed (row_block us) 0
theorem fix11 {o : Blk} (ho : inertB o = true) : ∀ r : List Blk, ∀ i, i < 1 → ∀ o', (o :: r)[i]? = some o' → Fixed 0 o' := by
  intro r i hi o' h
  have : i = 0 := by omega
  subst this
  simp at h; subst h; exact inert_fixed ho 0
section
variable {vs ms : List ViewV} {hp : Hp} {s : Value}
theorem c7_18 (h : TR vs s hp ∨ (TR ms s hp ∧ rightB ms = rightB vs)) : c7 vs ms 18 [s] hp = some (errI (rightB vs), heapOf [.dead] hp) := by
  show aCall Try.prog (E7 vs ms) 5 18 _ _ = _
  rw [aCall]
  have hE : E7 vs ms 18 = some fun _ args h => orFn (g18 vs) (g18 ms) args h := rfl
  rw [hE]
  show orFn (g18 vs) (g18 ms) [s] hp = _
  unfold orFn
  rcases h with h | ⟨h, hr⟩
  · rw [g18_of (.inr h)]
  · cases e : g18 vs [s] hp with
    | some r =>
      unfold g18 at e
      simp only at e
      split at e
      · cases e; rfl
      · cases e
    | none => simp only; rw [g18_of (.inr h), hr]
open Classical in
theorem c7_29 {lt lo lr keep : Int} (h : TR vs s hp ∨ (TR ms s hp ∧ ms.map (fgt lt lo lr keep) = vs.map (fgt lt lo lr keep) ∧ ms.length = vs.length)) (hne : s ≠ nilS) : c7 vs ms 29 [s, levA lt lo lr, .int .i64 keep] hp = some (newS hp.sz vs.length, heapOf [rowB (vs.map (fgt lt lo lr keep)), .dead] hp) := by
  show aCall Try.prog (E7 vs ms) 5 29 _ _ = _
  rw [aCall]
  have hE : E7 vs ms 29 = some fun _ args h => orFn (g29 vs) (g29 ms) args h := rfl
  rw [hE]
  show orFn (g29 vs) (g29 ms) [s, levA lt lo lr, .int .i64 keep] hp = _
  unfold orFn
  rcases h with h | ⟨h, hr, hl⟩
  · rw [g29_row h]
  · by_cases hv : TR vs s hp
    · rw [g29_row hv]
    · have : g29 vs [s, levA lt lo lr, .int .i64 keep] hp = none := by
        show (if s = nilS ∧ vs = [] then _ else if TR vs s hp then _ else _) = _
        rw [if_neg (fun h => hne h.1), if_neg hv]
      rw [this]
      simp only
      rw [g29_row h, hr, hl]
theorem c7_28 {b1 c1 b2 c2 n : Nat} {o1 o2 : Blk} (hn : n = ms.length) (hne : b1 ≠ b2) (h1 : hp.get b1 = some o1) (h2 : hp.get b2 = some o2) (i1 : inertB o1 = true) (i2 : inertB o2 = true) (r1 : ms = [] ∨ ∃ ty ro, o1 = .cells ty (vrow ms) ro) (r2 : ms = [] ∨ ∃ ty ro, o2 = .cells ty (vrow ms) ro) :
    c7 vs ms 28 [rowS b1 n c1, rowS b2 n c2] hp = some (.bool true, heapOf [.dead] hp) := by
  subst hn
  show aCall Try.prog (E7 vs ms) 5 28 _ _ = _
  rw [aCall]
  have hE : E7 vs ms 28 = some fun _ args h => g28 ms ms args h := rfl
  rw [hE]
  show g28 ms ms [rowS b1 ms.length c1, rowS b2 ms.length c2] hp = _
  unfold g28
  simp only
  rw [if_pos ⟨b1, c1, o1, b2, c2, o2, rfl, rfl, hne, h1, h2, i1, i2, r1, r2⟩, sameRow_refl]
  rfl
end
theorem s6a : codeSafe Try.prog 105 c6a = true := by kernel_rfl
theorem s6b : codeSafe Try.prog 105 c6b = true := by kernel_rfl
theorem s6c : codeSafe Try.prog 105 c6c = true := by kernel_rfl
theorem s6d : codeSafe Try.prog 105 c6d = true := by kernel_rfl
theorem s6e : codeSafe Try.prog 105 c6e = true := by kernel_rfl
theorem s6f : codeSafe Try.prog 105 c6f = true := by kernel_rfl
theorem s6g : codeSafe Try.prog 105 c6g = true := by kernel_rfl
theorem q6 (v : Value) (O : List Blk) (g : Nat → Value) : retVal Try.prog Try.f6 (stOf 105 g [(6, v)] O) = some v := by kernel_rfl
theorem c7_ok (vs ms : List ViewV) (hv : vs.length < 1000000) (hm : ms.length < 1000000) : CallOk Try.prog (c7 vs ms) := aCall_sound (E7_ok hkA12 vs ms hv hm) follows 5
noncomputable abbrev code6 : Code := .seq c6a (.seq c6b (.seq c6c (.seq c6d (.seq (.seq c6e (.block 0 (.loop c6f))) c6g))))
theorem law6_fr (o : Blk) (ho : inertB o = true) (vs : List ViewV) (hrow : vs = [] ∨ ∃ ty ro, o = .cells ty (vrow vs) ro) (c : Nat) (hn : vs.length < 1000000) (lt lo lr keep : Int) (W : Base) :
    FRwp Try.prog 105 W code6 (B6 o vs.length c lt lo lr keep) (fun e st => (e = .normal ∨ e = .ret) ∧ st.df = [] ∧ retVal Try.prog Try.f6 st = some (.bool true)) := by
  generalize hms : vs.map (fgt lt lo lr keep) = ms
  have hml : ms.length = vs.length := by rw [← hms, List.length_map]
  have hc := c7_ok vs ms hn (by omega)
  have hend : ∀ (O : List Blk) (g : Nat → Value), (Exit.ret = Exit.normal ∨ Exit.ret = Exit.ret) ∧ (stOf 105 g [(6, .bool true)] O).df = [] ∧ retVal Try.prog Try.f6 (stOf 105 g [(6, .bool true)] O) = some (.bool true) := fun O g => ⟨.inr rfl, rfl, q6 _ _ g⟩
  refine FRwp.seq (Q1 := fun x st => x = .normal ∧ ∃ g, st = A6 o vs.length c lt lo lr keep g) (FRwp.pieceY hc follows 1 _ _ _ _ (r6a o vs ms vs.length c lt lo lr keep) Met.nil MetH.nil MetE.nil s6a rfl rfl (fix11 ho _) fun g => ⟨rfl, g, rfl⟩) ?_ (fun x st hne hq => absurd hq.1 hne)
  rintro st ⟨-, g, rfl⟩
  have hA0 : (hA6 o lt lo lr).get 0 = some o := by unfold hA6; rw [heapOf0_get]; rfl
  have hTR : TR vs (rowS 0 vs.length c) (hA6 o lt lo lr) := ⟨0, c, o, rfl, hA0, ho, hrow⟩
  have h18 := c7_18 (vs := vs) (ms := ms) (.inl hTR)
  refine FRwp.seq (Q1 := fun x st => (x = .normal ∧ rightB vs = true ∧ ∃ g, st = A6 o vs.length c lt lo lr keep g) ∨ (x = .ret ∧ ∃ g, st = stOf 105 g [(6, .bool true)] [])) ?_ ?_ ?_
  · cases h12 : decide (Int.ofNat vs.length > 100) with
    | true => exact FRwp.pieceY hc follows 0 _ _ _ _ (r6b1 o vs ms vs.length c lt lo lr keep g) (Met.cons (met_bool h12) Met.nil) MetH.nil MetE.nil s6b rfl rfl (noFix _) fun g' => .inr ⟨rfl, g', rfl⟩
    | false =>
      cases hr : rightB vs with
      | false =>
        rw [hr] at h18
        exact FRwp.pieceY hc follows 0 _ _ _ _ (r6b2 o vs ms vs.length c lt lo lr keep g) (Met.cons (met_bool h12) Met.nil) (MetH.cons h18 MetH.nil) MetE.nil s6b rfl rfl (noFix _) fun g' => .inr ⟨rfl, g', rfl⟩
      | true =>
        rw [hr] at h18
        exact FRwp.pieceY hc follows 1 _ _ _ _ (r6b3 o vs ms vs.length c lt lo lr keep g) (Met.cons (met_bool h12) Met.nil) (MetH.cons h18 MetH.nil) MetE.nil s6b rfl rfl (fix11 ho _) fun g' => .inl ⟨rfl, rfl, g', rfl⟩
  rotate_left
  · rintro x st hne (⟨h, -⟩ | ⟨rfl, g, rfl⟩)
    · exact absurd h hne
    · exact hend _ g
  rintro st (⟨-, hr, g, rfl⟩ | ⟨h, -⟩)
  rotate_left
  · cases h
  have hmr : rightB ms = true := by rw [← hms]; exact fgt_right hr
  have h29 := c7_29 (vs := vs) (ms := ms) (lt := lt) (lo := lo) (lr := lr) (keep := keep) (.inl hTR) (by simp [rowS, nilS])
  rw [hms] at h29
  refine FRwp.seq (Q1 := fun x st => x = .normal ∧ ∃ g, st = C6 o ms vs.length c lt lo lr keep g) (FRwp.pieceY hc follows 2 _ _ _ _ (r6c o vs ms vs.length c lt lo lr keep g) Met.nil (MetH.cons h29 MetH.nil) MetE.nil s6c rfl rfl (fix2 ho ms _) fun g => ⟨rfl, g, rfl⟩) ?_ (fun x st hne hq => absurd hq.1 hne)
  rintro st ⟨-, g, rfl⟩
  refine FRwp.seq (Q1 := fun x st => x = .normal ∧ ∃ g, st = C6 o ms vs.length c lt lo lr keep g) (FRwp.pieceY hc follows 2 _ _ _ _ (r6d o vs ms vs.length c lt lo lr keep g) (Met.cons (by simp) Met.nil) MetH.nil MetE.nil s6d rfl rfl (fix2 ho ms _) fun g => ⟨rfl, g, rfl⟩) ?_ (fun x st hne hq => absurd hq.1 hne)
  rintro st ⟨-, g, rfl⟩
  refine FRwp.seq (Q1 := fun x st => x = .normal ∧ ∃ g, st = C6 o ms vs.length c lt lo lr keep g) ?_ ?_ (fun x st hne hq => absurd hq.1 hne)
  · refine FRwp.seq (Q1 := fun x st => x = .normal ∧ ∃ g, st = L6 o ms vs.length c lt lo lr keep 0 g) (FRwp.pieceY hc follows 2 _ _ _ _ (r6e o vs ms vs.length c lt lo lr keep g) Met.nil MetH.nil MetE.nil s6e rfl rfl (fix2 ho ms _) fun g => ⟨rfl, g, rfl⟩) ?_ (fun x st hne hq => absurd hq.1 hne)
    rintro st ⟨-, g, rfl⟩
    refine FRwp.block ?_
    refine FRwp.loop (fun k st => ∃ i g, i ≤ vs.length ∧ k = vs.length - i ∧ st = L6 o ms vs.length c lt lo lr keep i g) ?_ (k := vs.length) ⟨0, g, Nat.zero_le _, rfl, rfl⟩
    rintro k st ⟨i, g, hi, hk, rfl⟩
    cases h15 : decide (Int.ofNat i < Int.ofNat vs.length) with
    | false =>
      refine FRwp.pieceY hc follows 2 _ _ _ _ (r6x o vs ms vs.length c lt lo lr keep i g) (Met.cons (met_bool h15) Met.nil) MetH.nil MetE.nil s6f rfl rfl (fix2 ho ms _) fun g' => .inr ⟨by simp, ?_⟩
      show (if (0 : Nat) = 0 then _ else _)
      rw [if_pos rfl]
      exact ⟨rfl, g', rfl⟩
    | true =>
      have hlt : i < vs.length := by simpa using h15
      obtain ⟨x, hx⟩ : ∃ x, vs[i]? = some x := ⟨_, List.getElem?_eq_getElem hlt⟩
      have hy : ms[i]? = some (fgt lt lo lr keep x) := by rw [← hms, List.getElem?_map, hx]; rfl
      have hone := right_one hr hx
      have hid := (one_facts hone).2.2.1
      have htold := told_of hone
      have h0 : RowAt (heapOf ([o, rowB ms, lvB lt lo lr] ++ [.dead]) hp0) 0 vs := by
        rcases hrow with h | ⟨ty, ro, h⟩
        · rw [h] at hlt; simp at hlt
        · exact .of (ty := ty) (ro := ro) (by rw [heapOf0_get, h]; rfl)
      have h1 : RowAt (heapOf ([o, rowB ms, lvB lt lo lr] ++ [.dead]) hp0) 1 ms := .of (ty := 34) (ro := false) (by rw [heapOf0_get]; rfl)
      have ix0 : (ixO 0 vs.length c i).1 = some (ixO 0 vs.length c i).2 := vidx_ok hlt
      have ix1 : (ixO 1 vs.length 22 i).1 = some (ixO 1 vs.length 22 i).2 := vidx_ok hlt
      have hnx : (nxt29 i).1 = some (nxt29 i).2 := wrap_up (by omega)
      have hbeg : Met (begO vs.length i) := Met.cons (met_bool h15) Met.nil
      have hb0 : aLoad Try.prog (heapOf ([o, rowB ms, lvB lt lo lr] ++ [.dead]) hp0).get 4 (pb 0 (i * 7 + 1)) = some (.bool x.n) := bload_ok h0 hx
      have hstep : ∀ g', (Exit.normal = Exit.normal ∧ ∃ k', k' < k ∧ ∃ i_1 g, i_1 ≤ vs.length ∧ k' = vs.length - i_1 ∧ stOf 105 g' [(0, rowS 0 vs.length c), (2, .int .i64 keep), (4, p2), (6, .bool false), (7, newS 1 vs.length), (8, iN (i + 1))] [o, rowB ms, lvB lt lo lr] = L6 o ms vs.length c lt lo lr keep i_1 g) := fun g' =>
        ⟨rfl, vs.length - (i + 1), by omega, i + 1, g', by omega, rfl, rfl⟩
      have hendO : isAt lt lo lr keep x = false → Met (endO o ms vs.length c lt lo lr i x x) := fun h => by
        have hf : fgt lt lo lr keep x = x := by unfold fgt; rw [h]; rfl
        rw [hf] at hy
        exact Met.cons ix1 (Met.cons (vload_ok h1 hy) (Met.cons ix0 (Met.cons (vload_ok h0 hx) (Met.cons (by rw [neq34, sameV_refl]; rfl) (Met.cons hnx Met.nil)))))
      cases hxn : x.n with
      | true =>
        have hat : isAt lt lo lr keep x = false := by unfold isAt; rw [htold, hxn]; simp
        exact FRwp.pieceY hc follows 2 _ _ _ _ (r6N o vs ms vs.length c lt lo lr keep i x x g) (met_app hbeg (met_app (Met.cons ix0 (Met.cons hb0 (Met.cons (by rw [hxn]; rfl) Met.nil))) (hendO hat))) MetH.nil MetE.nil s6f rfl rfl (fix2 ho ms _) fun g' => .inl (hstep g')
      | false =>
        have hmid : Met (midO o ms vs.length c lt lo lr i x (ordX lt lo lr x == 0)) := Met.cons rfl (Met.cons ix0 (Met.cons hb0 (Met.cons (by rw [hxn]; rfl) (Met.cons ix0 (Met.cons (hload_ok h0 hx) (Met.cons rfl Met.nil))))))
        rw [ordX_zero] at hmid
        cases hle : levEq lt lo lr x with
        | false =>
          rw [hle] at hmid
          have hat : isAt lt lo lr keep x = false := by unfold isAt; rw [hle]; simp
          exact FRwp.pieceY hc follows 2 _ _ _ _ (r6L o vs ms vs.length c lt lo lr keep i x x g) (met_app hbeg (met_app hmid (hendO hat))) MetH.nil MetE.nil s6f rfl rfl (fix2 ho ms _) fun g' => .inl (hstep g')
        | true =>
          rw [hle] at hmid
          have hcell := vcell_ok h0 hx
          cases hk : (x.id != keep) with
          | false =>
            have hat : isAt lt lo lr keep x = false := by unfold isAt; rw [hk]; rfl
            exact FRwp.pieceY hc follows 2 _ _ _ _ (r6K o vs ms vs.length c lt lo lr keep i x x g) (met_app hbeg (met_app hmid (met_app (Met.cons ix0 (Met.cons hcell (Met.cons (met_bool hk) Met.nil))) (hendO hat)))) MetH.nil MetE.nil s6f rfl rfl (fix2 ho ms _) fun g' => .inl (hstep g')
          | true =>
            have hat : isAt lt lo lr keep x = true := by unfold isAt; rw [hk, htold, hxn, hle]; rfl
            have hf : fgt lt lo lr keep x = nullV x := by unfold fgt; rw [hat]; rfl
            rw [hf] at hy
            exact FRwp.pieceY hc follows 2 _ _ _ _ (r6A o vs ms vs.length c lt lo lr keep i x (nullV x) g) (met_app hbeg (met_app hmid (met_app (Met.cons ix0 (Met.cons hcell (Met.cons (met_bool hk) Met.nil)))
              (Met.cons (hload_ok h1 hy) (Met.cons ix1 (Met.cons (hload_ok h1 hy) (Met.cons ix0 (Met.cons hcell (Met.cons (by rw [← hid]; exact neq23_null) (Met.cons hnx Met.nil)))))))))) MetH.nil MetE.nil s6f rfl rfl (fix2 ho ms _) fun g' => .inl (hstep g')
  · rintro st ⟨-, g, rfl⟩
    have hC1 : (hC6 o ms lt lo lr).get 1 = some (rowB ms) := by unfold hC6; rw [heapOf0_get]; rfl
    have szC : (hC6 o ms lt lo lr).sz = 4 := rfl
    have hTm : TR ms (newS 1 vs.length) (hC6 o ms lt lo lr) := ⟨1, 22, rowB ms, by rw [hml]; rfl, hC1, row_block ms, .inr ⟨34, false, rfl⟩⟩
    have k18 := c7_18 (vs := vs) (ms := ms) (.inr ⟨hTm, by rw [hmr, hr]⟩)
    rw [hr] at k18
    have hD1 : (heapOf [.dead] (hC6 o ms lt lo lr)).get 1 = some (rowB ms) := by rw [heapOf_get, szC, if_pos (by omega), hC1]
    have hTm2 : TR ms (newS 1 vs.length) (heapOf [.dead] (hC6 o ms lt lo lr)) := ⟨1, 22, rowB ms, by rw [hml]; rfl, hD1, row_block ms, .inr ⟨34, false, rfl⟩⟩
    have k29 := c7_29 (vs := vs) (ms := ms) (lt := lt) (lo := lo) (lr := lr) (keep := keep) (.inr ⟨hTm2, by rw [← hms]; exact fgt_map, hml⟩) (by simp [newS, nilS])
    rw [hms] at k29
    have szD : (heapOf [.dead] (hC6 o ms lt lo lr)).sz = 5 := rfl
    have hE5 : (heapOf [rowB ms, .dead] (heapOf [.dead] (hC6 o ms lt lo lr))).get 5 = some (rowB ms) := by rw [heapOf_get, szD, if_neg (by omega)]; rfl
    have hE1 : (heapOf [rowB ms, .dead] (heapOf [.dead] (hC6 o ms lt lo lr))).get 1 = some (rowB ms) := by rw [heapOf_get, szD, if_pos (by omega), hD1]
    have k28 := c7_28 (vs := vs) (ms := ms) (n := vs.length) (c1 := 22) (c2 := 22) hml.symm (show (5 : Nat) ≠ 1 by omega) hE5 hE1 (row_block ms) (row_block ms) (.inr ⟨34, false, rfl⟩) (.inr ⟨34, false, rfl⟩)
    exact FRwp.pieceY hc follows 0 _ _ _ _ (r6g o vs ms vs.length c lt lo lr keep g) Met.nil (MetH.cons k18 (MetH.cons k29 (MetH.cons k28 MetH.nil))) MetE.nil s6g rfl rfl (noFix _) fun g' => hend _ g'
end Go.Proofs.Ytiogdklmhpllfaa.LtA
namespace Go.Proofs.Ytiogdklmhpllfaa.LtA
open Go Go.Proofs Go.Proofs.Ytiogdklmhpllfaa.AI Go.RowKit Go.ChangeShapes

theorem cells3 : Try.prog.cellsOf 3 = 1 := by kernel_rfl
theorem cells4 : Try.prog.cellsOf 4 = 1 := by kernel_rfl
theorem cells23' : Try.prog.cellsOf 23 = 6 := by kernel_rfl
theorem cells34 : Try.prog.cellsOf 34 = 7 := by kernel_rfl
theorem cells46 : Try.prog.cellsOf 46 = 3 := by kernel_rfl
theorem types46 : Try.prog.cellTypes Try.prog.depth 46 = some [3, 3, 3] := by kernel_rfl
section
variable {H : Type} {enc : TypeId × Value → H} {W : World} {sp : Nat → Bool} {hd : Bool} {n : Nat} {cs : List Value} {x : DataW H × List MemPlace}
theorem view_of (h : DataW.trod enc Try.prog W 0 sp hd n 34 cs = some x) : ∃ p : ViewV, cs = vc p := by
  obtain ⟨hl, hf⟩ := trod_field Try.underlying34 h
  rw [cells34] at hl
  match cs, hl with
  | [v0, v1, v2, v3, v4, v5, v6], _ =>
    obtain ⟨_, _, k0⟩ := hf 0 _ rfl
    obtain ⟨_, _, k1⟩ := hf 1 _ rfl
    obtain ⟨i0, e0⟩ := trod_int Try.underlying3 k0
    obtain ⟨-, f1⟩ := trod_field Try.underlying23 k1
    obtain ⟨_, _, k10⟩ := f1 0 _ rfl
    obtain ⟨_, _, k11⟩ := f1 1 _ rfl
    obtain ⟨_, _, k12⟩ := f1 2 _ rfl
    obtain ⟨_, _, k13⟩ := f1 3 _ rfl
    obtain ⟨_, _, k14⟩ := f1 4 _ rfl
    obtain ⟨_, _, k15⟩ := f1 5 _ rfl
    obtain ⟨b, e1⟩ := trod_bool Try.underlying4 k10
    obtain ⟨i2, e2⟩ := trod_int Try.underlying3 k11
    obtain ⟨i3, e3⟩ := trod_int Try.underlying3 k12
    obtain ⟨i4, e4⟩ := trod_int Try.underlying3 k13
    obtain ⟨i5, e5⟩ := trod_int Try.underlying3 k14
    obtain ⟨i6, e6⟩ := trod_int Try.underlying3 k15
    simp [cells3, cells4, cells23'] at e0 e1 e2 e3 e4 e5 e6
    subst e0 e1 e2 e3 e4 e5 e6
    exact ⟨⟨i0, b, i2, i3, i4, i5, i6⟩, rfl⟩
end
theorem list_of {α : Type} {R : Nat → α → Prop} : ∀ n, (∀ i, i < n → ∃ p, R i p) → ∃ ps : List α, ps.length = n ∧ ∀ i p, ps[i]? = some p → R i p
  | 0, _ => ⟨[], rfl, fun i p h => by simp at h⟩
  | n + 1, h => by
    obtain ⟨ps, h1, h2⟩ := list_of n (fun i hi => h i (by omega))
    obtain ⟨q, hq⟩ := h n (by omega)
    refine ⟨ps ++ [q], by simp [h1], fun i p hp => ?_⟩
    by_cases hi : i < ps.length
    · rw [List.getElem?_append_left hi] at hp; exact h2 i p hp
    · rw [List.getElem?_append_right (by omega)] at hp
      have : i - ps.length = 0 := by
        have := (List.getElem?_eq_some_iff.1 hp).1
        simp at this; omega
      rw [this] at hp
      simp at hp
      subst hp
      have : i = n := by omega
      rw [this]; exact hq
/-- A row of views, as it lies. -/
theorem vrow_of {H : Type} {enc : TypeId × Value → H} {W : World} {sp : Nat → Bool} {hd : Bool} {fuel : Nat} {r off n c : Nat} {x : DataW H × List MemPlace} (h : DataW.trod enc Try.prog W 0 sp hd fuel 29 [.slice (some ⟨r, off, none⟩) n c] = some x) (hn : 0 < n) :
    ∃ (ps : List ViewV) (arr : Array Value) (ty : TypeId) (fr : Nat × Nat), ps.length = n ∧ W.heap[r]? = some (.cells arr ty fr) ∧ off + (vrow ps).length ≤ arr.size ∧
      ∀ (i : Nat) (v v' : Value), (vrow ps)[i]? = some v → arr[off + i]? = some v' → VRel bm0 (fun _ => none) v v' := by
  rcases Go.Deep.open_slice Try.underlying29 h with ⟨h0, _⟩ | ⟨a, len, cap, m, k, D, Pl, e0, _, hlc, _, hm, _, hel⟩
  · simp at h0
  simp only [List.cons.injEq, Value.slice.injEq, Option.some.injEq, and_true] at e0
  obtain ⟨rfl, rfl, rfl⟩ := e0
  have hmn : n ≤ m := by rw [hm]; split <;> omega
  rw [cells34] at hel
  have hw : ∀ i, i < n → ∃ p : ViewV, ∀ j, j < 7 → W.cell? ⟨r, off + (i * 7 + j), none⟩ = (vc p)[j]? := by
    intro i hi
    obtain ⟨cs, h1, h2⟩ := hel i (by omega)
    obtain ⟨p, rfl⟩ := view_of h2
    obtain ⟨_, h5, h6⟩ := World.cells?_some h1
    refine ⟨p, fun j hj => ?_⟩
    have := h6 j hj
    rw [Addr.add_lit, Addr.add_lit, Nat.add_assoc] at this
    exact this
  obtain ⟨ps, hl, hps⟩ := list_of (R := fun i (p : ViewV) => ∀ j, j < 7 → W.cell? ⟨r, off + (i * 7 + j), none⟩ = (vc p)[j]?) n hw
  have hcell : ∀ i j, i < n → j < 7 → ∃ v, W.cell? ⟨r, off + (i * 7 + j), none⟩ = some v := by
    intro i j hi hj
    obtain ⟨p, h1⟩ := hw i hi
    rw [h1 j hj]
    have : (vc p).length = 7 := rfl
    rw [List.getElem?_eq_getElem (by omega)]
    exact ⟨_, rfl⟩
  obtain ⟨arr, ty, fr, hc⟩ : ∃ arr ty fr, W.heap[r]? = some (.cells arr ty fr) := by
    obtain ⟨v, hv⟩ := hcell 0 0 hn (by omega)
    unfold World.cell? at hv
    split at hv
    · rename_i arr ty fr hc; exact ⟨arr, ty, fr, hc⟩
    · cases hv
  have hlen : (vrow ps).length = n * 7 := by rw [vrow_len, hl]
  refine ⟨ps, arr, ty, fr, hl, hc, ?_, fun i v v' q1 q2 => ?_⟩
  · obtain ⟨v, hv⟩ := hcell (n - 1) 6 (by omega) (by omega)
    rw [cell_of hc] at hv
    have := (Array.getElem?_eq_some_iff.1 hv).1
    rw [hlen]
    omega
  · have hi : i < n * 7 := by rw [← hlen]; exact (List.getElem?_eq_some_iff.1 q1).1
    have hq : i / 7 < ps.length := by rw [hl]; exact Nat.div_lt_of_lt_mul (by rw [Nat.mul_comm]; exact hi)
    have hp : ps[i / 7]? = some ps[i / 7] := List.getElem?_eq_getElem hq
    have hsplit : i = i / 7 * 7 + i % 7 := by omega
    have hj : i % 7 < 7 := Nat.mod_lt _ (by omega)
    have h1 := hps _ _ hp
    have g1 := flat_get vc 7 ps (fun _ _ => rfl) (i / 7) (i % 7) _ hp hj
    rw [← hsplit] at g1
    have g2 := h1 (i % 7) hj
    rw [← hsplit, cell_of hc, q2] at g2
    have hvrow : (vrow ps)[i]? = (ps.flatMap vc)[i]? := rfl
    rw [hvrow, g1, ← g2] at q1
    cases q1
    have hfl : AI.flat v = true := by
      have hm := List.mem_of_getElem? g2.symm
      unfold vc at hm
      simp only [List.mem_cons, List.not_mem_nil, or_false] at hm
      rcases hm with rfl | rfl | rfl | rfl | rfl | rfl | rfl <;> rfl
    exact .flat hfl
theorem sim_dead {m : BM} {o : Blk} {W : World} (s : Sim m (heapOf [o] hp0).get W) : Sim m (heapOf [o, .dead] hp0).get W := by
  have hsub : ∀ b o', (heapOf [o] hp0).get b = some o' → (heapOf [o, .dead] hp0).get b = some o' := by
    intro b o' h
    rw [heapOf0_get] at h ⊢
    match b with
    | 0 => exact h
    | b + 1 => simp at h
  have hle : Le m (heapOf [o] hp0).get m (heapOf [o, .dead] hp0).get := ⟨fun b h => hsub b _ h, fun b x h => .inr h⟩
  refine ⟨fun b x hx => ?_, fun b b' x x' hx hx' hr hl e => ?_⟩
  · obtain ⟨o', h1, h2⟩ := s.dom b x hx
    exact ⟨o', hsub _ _ h1, h2.mono hle rfl⟩
  · obtain ⟨o1, h1, _⟩ := s.dom b x hx
    obtain ⟨o2, h2, _⟩ := s.dom b' x' hx'
    refine s.inj b b' x x' hx hx' ?_ ?_ e
    · unfold rw? at hr ⊢; rw [hsub _ _ h1] at hr; rw [h1]; exact hr
    · unfold live? at hl ⊢; rw [hsub _ _ h2] at hl; rw [h2]; exact hl
theorem ro2_cells {ty : TypeId} {L : List Value} (b : Nat) : rw? (heapOf [Blk.cells ty L true, .dead] hp0).get b = false := by
  unfold rw?
  rw [heapOf0_get]
  match b with
  | 0 => rfl
  | 1 => rfl
  | b + 2 => rfl
theorem ro2_dead (b : Nat) : rw? (heapOf [Blk.dead, .dead] hp0).get b = false := by
  unfold rw?
  rw [heapOf0_get]
  match b with
  | 0 => rfl
  | 1 => rfl
  | b + 2 => rfl
theorem ntmps6 : Try.f6.ntmps = 105 := by kernel_rfl
theorem valw_slice {w : World} {r : Reach} {base : Nat} {t e : TypeId} {v : Value} (ht : Try.prog.underlying t = some (.slice e)) (h : Value.okWide Try.prog w r base t v) : v = .slice none 0 0 ∨ ∃ b off n c, v = .slice (some ⟨b, off, none⟩) n c ∧ n ≤ c := by
  unfold Value.okWide at h
  rw [ht] at h
  exact cellw_slice ht h
theorem open_level {w : World} {r : Reach} {base : Nat} {v : Value} (h : Value.okWide Try.prog w r base 46 v) : ∃ lt lo lr, v = levA lt lo lr := by
  obtain ⟨cs, rfl, hs, hc⟩ := openw_cells Try.underlying46 types46 cells46 h
  obtain ⟨l⟩ := cs
  match l, hs with
  | [x0, x1, x2], _ =>
    obtain ⟨a, rfl, _⟩ := cellw_int Try.underlying3 (hc 0 3 x0 rfl rfl)
    obtain ⟨b, rfl, _⟩ := cellw_int Try.underlying3 (hc 1 3 x1 rfl rfl)
    obtain ⟨d, rfl, _⟩ := cellw_int Try.underlying3 (hc 2 3 x2 rfl rfl)
    exact ⟨a, b, d, rfl⟩

/-- A row of more than a hundred. -/
theorem law6_long (o : Blk) (ho : inertB o = true) (n c : Nat) (hn : n > 100) (lt lo lr keep : Int) (W : Base) :
    FRwp Try.prog 105 W code6 (B6 o n c lt lo lr keep) (fun e st => (e = .normal ∨ e = .ret) ∧ st.df = [] ∧ retVal Try.prog Try.f6 st = some (.bool true)) := by
  have hc := c7_ok [] [] (by simp) (by simp)
  have hend : ∀ (O : List Blk) (g : Nat → Value), (Exit.ret = Exit.normal ∨ Exit.ret = Exit.ret) ∧ (stOf 105 g [(6, .bool true)] O).df = [] ∧ retVal Try.prog Try.f6 (stOf 105 g [(6, .bool true)] O) = some (.bool true) := fun O g => ⟨.inr rfl, rfl, q6 _ _ g⟩
  refine FRwp.seq (Q1 := fun x st => x = .normal ∧ ∃ g, st = A6 o n c lt lo lr keep g) (FRwp.pieceY hc follows 1 _ _ _ _ (r6a o [] [] n c lt lo lr keep) Met.nil MetH.nil MetE.nil s6a rfl rfl (fix11 ho _) fun g => ⟨rfl, g, rfl⟩) ?_ (fun x st hne hq => absurd hq.1 hne)
  rintro st ⟨-, g, rfl⟩
  refine FRwp.seq (Q1 := fun x st => x = .ret ∧ ∃ g, st = stOf 105 g [(6, .bool true)] []) ?_ ?_ ?_
  · exact FRwp.pieceY hc follows 0 _ _ _ _ (r6b1 o [] [] n c lt lo lr keep g) (Met.cons (met_bool (decide_eq_true (by simp only [Int.ofNat_eq_natCast]; omega))) Met.nil) MetH.nil MetE.nil s6b rfl rfl (noFix _) fun g' => ⟨rfl, g', rfl⟩
  · rintro st ⟨h, -⟩; cases h
  · rintro x st hne ⟨rfl, g, rfl⟩
    exact hend _ g
noncomputable def EN6 : Ext := extH Try.prog [(26, gAwake12)]
theorem EN6_ok : ExtOk Try.prog EN6 := by unfold EN6; exact extH_ok (.cons hkA12 .nil)
theorem nil6 (lt lo lr keep : Int) : ∃ hp, aCall Try.prog EN6 100 6 [nilS, levA lt lo lr, .int .i64 keep] hp0 = some (.bool true, hp) := by
  have h : (aCall Try.prog EN6 100 6 [nilS, levA lt lo lr, .int .i64 keep] hp0).map (·.1) = some (.bool true) := by kernel_rfl
  obtain ⟨⟨v, hp⟩, h1, h2⟩ := Option.map_eq_some_iff.1 h
  simp only at h2
  subst h2
  exact ⟨hp, h1⟩
/-- From a frame of its own to the law's word. -/
theorem walk6_end (W : World) {args : Array Value} {o : Blk} {n c : Nat} {lt lo lr keep : Int} {m : BM} (sim : Sim m (heapOf [o, .dead] hp0).get W) (ro : ∀ b, rw? (heapOf [o, .dead] hp0).get b = false)
    (ra : VRelL m (heapOf [o, .dead] hp0).get [rowS 0 n c, levA lt lo lr, .int .i64 keep] args.toList) (h : ∀ W, FRwp Try.prog 105 W code6 (B6 o n c lt lo lr keep) (fun e st => (e = .normal ∨ e = .ret) ∧ st.df = [] ∧ retVal Try.prog Try.f6 st = some (.bool true))) :
    Calls Try.prog 6 args W fun e W' => e = .returned (.bool true) ∧ Below W.heap.size W W' := by
  have h' := h (Base.shut W)
  rw [← ntmps6] at h'
  refine (fn_of (R := fun v _ => v = .bool true) Try.func6 body6 (by rw [ntmps6]; simp) (heapOf_ok _ _ hp0_ok) sim ro ra (FRwp.mono h' fun e st q => ⟨q.1, q.2.1, _, q.2.2, rfl⟩)).mono fun e w' hh => ?_
  obtain ⟨v', v, st', m', rfl, rfl, rv, _, _, hb, _⟩ := hh
  exact ⟨by rw [rv.of_bool], hb⟩
theorem levA_rel {m : BM} {h : HG} (lt lo lr : Int) : VRel m h (levA lt lo lr) (levA lt lo lr) := VRel.plain rfl
theorem sim_bm0 {h : HG} {W : World} : Sim bm0 h W := ⟨fun b x h => (by cases h), fun b b' x x' h => (by cases h)⟩
theorem walk6 {H : Type} {enc : TypeId × Value → H} (W : World) (base : Nat) (args : Array Value) (ds : List (DataW H)) (p : List MemPlace) (hsz : args.size = 3) (hval : ∀ (j : Nat) t v, Try.f6.params[j]? = some t → args[j]? = some v → Value.okWide Try.prog W .any base t v)
    (hA : DataW.TrodAll enc Try.prog W 0 (fun _ => true) true [29, 46, 3] args.toList ds p) : Calls Try.prog 6 args W fun e W' => e = .returned (.bool true) ∧ Below W.heap.size W W' := by
  obtain ⟨vl, vv, vk, rfl⟩ : ∃ vl vv vk, args = #[vl, vv, vk] := by
    obtain ⟨l⟩ := args
    match l, hsz with
    | [a, b, c], _ => exact ⟨a, b, c, rfl⟩
  obtain ⟨lt, lo, lr, rfl⟩ := open_level (hval 1 46 vv (by kernel_rfl) rfl)
  obtain ⟨keep, rfl, _⟩ := valw_int Try.underlying3 (hval 2 3 vk (by kernel_rfl) rfl)
  rcases valw_slice Try.underlying29 (hval 0 29 vl (by kernel_rfl) rfl) with rfl | ⟨r, off, n, c, rfl, hn⟩
  · obtain ⟨hp, he⟩ := nil6 lt lo lr keep
    exact walk_flat EN6_ok follows Try.func6 (by kernel_rfl) (args := #[nilS, levA lt lo lr, .int .i64 keep]) rfl he W
  · have hlong : ∀ (hd : n = 0 ∨ n > 100), Calls Try.prog 6 #[.slice (some ⟨r, off, none⟩) n c, levA lt lo lr, .int .i64 keep] W fun e W' => e = .returned (.bool true) ∧ Below W.heap.size W W' := fun hd => by
      refine walk6_end W (o := .dead) (n := n) (c := 2) (lt := lt) (lo := lo) (lr := lr) (keep := keep) (m := bm0) sim_bm0 ro2_dead (.cons (.slice (.of hn (by decide)) (.inl (by rw [heapOf0_get]; rfl))) (.cons (levA_rel ..) (.cons (.flat rfl) .nil))) fun W => ?_
      rcases hd with rfl | hd
      · exact law6_fr .dead rfl [] (.inl rfl) 2 (by simp) lt lo lr keep W
      · exact law6_long .dead rfl n 2 hd lt lo lr keep W
    by_cases hd : n = 0 ∨ n > 100
    · exact hlong hd
    · obtain ⟨v1, vs1, d1, ds1, p1, q1, e1, _, _, ⟨fuel, hT⟩, _⟩ := trodAll_cons hA
      cases e1
      have hT' : DataW.trod enc Try.prog W 0 (fun _ => true) true fuel 29 [.slice (some ⟨r, off, none⟩) n c] = some (d1, p1) := by simpa [Value.cells] using hT
      obtain ⟨ps, arr, ty, fr, hl, hcell, hlen, hv⟩ := vrow_of hT' (by omega)
      have hin := vrow_inert ps
      refine walk6_end W (o := .cells ty (vrow ps) true) (n := n) (c := 2) (lt := lt) (lo := lo) (lr := lr) (keep := keep) (sim_dead (row_sim (k := 7) (n := n) hcell hlen hin hv)) ro2_cells
        (.cons (.slice (.of hn (by decide)) (.inr ⟨off, arr.size, rfl, .inl rfl, ?_⟩)) (.cons (levA_rel ..) (.cons (.flat rfl) .nil))) fun W => ?_
      · constructor <;> intro h <;> simp at h
      · rw [← hl]
        exact law6_fr (.cells ty (vrow ps) true) hin ps (.inr ⟨ty, true, rfl⟩) 2 (by omega) lt lo lr keep W
theorem own : ownKnob Try.prog.godebug = none := by kernel_rfl
theorem laid : laidOutB Try.prog = true := by kernel_rfl
theorem params6 : ∀ t ∈ Try.f6.params.toList, Try.prog.readableRec t = true ∧ t < Try.prog.types.size := by
  have h : Try.f6.params.toList.all (fun t => Try.prog.readableRec t && decide (t < Try.prog.types.size)) = true := by kernel_rfl
  intro t ht
  have := List.all_eq_true.1 h t ht
  simpa using this
theorem lifted6 (os : Os) (started : os.Started) (H : Type) (enc : TypeId × Value → H) :
    ReturnsInHanded {} Try.checked os 6 .any (Rows.viewsForgetSpec.pre6 enc Try.prog Try.f6 Rows.viewsForgetRow.domain false) (Rows.viewsForgetSpec.post enc Try.prog Try.f6 false true false false) :=
  law_lifted (C := Try.checked) (tb := 4) started own (by kernel_rfl) Try.func6 laid params6 rfl (by kernel_rfl) Try.underlying4
    (fun ds hl => by
      match ds, hl with
      | [_, _, _], _ => rfl)
    (ChangeSpec.witness6 (enc := enc) (C := Try.checked) false ⟨#[], #[nilS, levA 0 0 0, .int .i64 0], []⟩ 8 (by kernel_rfl) (by kernel_rfl) (by kernel_rfl) (by kernel_rfl))
    (fun W base args ds p hsz hval hA => walk6 W base args ds p hsz hval hA)

/-- The statement. -/
theorem viewsForget_proved : Rows.ViewsForgetSaid :=
  OpenClaim.holds_of_wide 6 Try.f6 rfl rfl rfl rfl rfl rfl rfl ⟨rfl, rfl, rfl, rfl, rfl⟩ rfl rfl rfl rfl rfl (by kernel_rfl) Try.func6 (by kernel_rfl)
    (of_decide_eq_true (by kernel_rfl)) (by unfold Func.isWrapper; first | (rw [if_pos (by decide +kernel)]; kernel_rfl) | (rw [if_neg (by decide +kernel)]; exact ⟨rfl, rfl⟩))
    (fun os started H enc _ => lifted6 os started H enc)
#print axioms viewsForget_proved
end Go.Proofs.Ytiogdklmhpllfaa.LtA
