/- views.Forget: whatever the row, a new one, in which those at the level are not known any more. -/
import Derived.Test.YtiogdklmhpllfaaVfA
import Derived.Lib.Overlaps
import Derived.Laws.Externs
set_option linter.unusedVariables false
set_option linter.unusedSimpArgs false
set_option maxRecDepth 100000
namespace Go.Proofs.Ytiogdklmhpllfaa.LtA
open Go Go.Proofs Go.Proofs.Ytiogdklmhpllfaa.AI Go.RowKit

noncomputable def E6 (vs : List ViewV) : Ext := extG E5 [(61, g61 vs)]
theorem E6_ok (vs : List ViewV) (hn : vs.length < 1000000) : ExtOk Try.prog (E6 vs) := extG_ok E5_ok (.cons (hk61 vs hn) .nil)
noncomputable def c6 (vs : List ViewV) : CallF := aCall Try.prog (E6 vs) 5
theorem c6_ok (vs : List ViewV) (hn : vs.length < 1000000) : CallOk Try.prog (c6 vs) := aCall_sound (E6_ok vs hn) follows 5
noncomputable def fb29 : Code := (Try.f29.body).getD .skip
noncomputable def c29a : Code := sL fb29
noncomputable def c29b : Code := sL (sR fb29)
noncomputable def c29c : Code := sL (sL (sR (sR fb29)))
noncomputable def c29d : Code := unL (unB (sR (sL (sR (sR fb29)))))
noncomputable def c29e : Code := sR (sR (sR fb29))
theorem body29 : Try.f29.body = some (.seq c29a (.seq c29b (.seq (.seq c29c (.block 0 (.loop c29d))) c29e))) := by kernel_rfl
def levA (lt lo lr : Int) : Value := .agg #[.int .i64 lt, .int .i64 lo, .int .i64 lr]
def lvB (lt lo lr : Int) : Blk := .cells 46 [.int .i64 lt, .int .i64 lo, .int .i64 lr] false
def p1 : Value := .pointer (some ⟨1, 0, none⟩)
def rowB (us : List ViewV) : Blk := .cells 34 (vrow us) false
section
variable (o : Blk) (vs us : List ViewV) (n c : Nat) (lt lo lr keep : Int)
abbrev B29 : St := ⟨tmsOf [rowS 0 n c, levA lt lo lr, .int .i64 keep] 0 .leaf, heapOf [o, .dead] hp0, []⟩
abbrev A29 (g : Nat → Value) : St := stOf 45 g [(0, rowS 0 n c), (2, .int .i64 keep), (4, p1)] [o, lvB lt lo lr]
abbrev C29 (g : Nat → Value) : St := stOf 45 g [(2, .int .i64 keep), (4, p1), (7, newS 0 n)] [rowB us, lvB lt lo lr]
abbrev L29 (i : Nat) (g : Nat → Value) : St := stOf 45 g [(2, .int .i64 keep), (4, p1), (7, newS 0 n), (12, newS 0 n), (13, iN n), (14, iN i)] [rowB us, lvB lt lo lr]
theorem r29a : (execE Try.prog (c6 vs) [] [] [] 10 c29a (B29 o n c lt lo lr keep)).map (fun y => (look2 1 [0, 2] [0, 2, 4] (y.1, y.2.1), y.2.2)) = some ((.normal, [o, lvB lt lo lr], [(0, rowS 0 n c), (2, .int .i64 keep), (4, p1)], true), [], [], []) := by kernel_rfl
theorem r29b (g : Nat → Value) : (execE Try.prog (c6 vs) [] [(11, newS 3 n, [rowB vs, .dead])] [] 10 c29b (A29 o n c lt lo lr keep g)).map (fun y => (look2 1 [3, 1] [2, 4, 7] (y.1, y.2.1), y.2.2)) =
    some ((.normal, [rowB vs, lvB lt lo lr], [(2, .int .i64 keep), (4, p1), (7, newS 0 n)], true), [], [(c6 vs 61 [rowS 0 n c] (heapOf ([o, lvB lt lo lr] ++ [.dead]) hp0), (newS 3 n, heapOf [rowB vs, .dead] (heapOf ([o, lvB lt lo lr] ++ [.dead]) hp0)))], []) := by kernel_rfl
theorem r29c (g : Nat → Value) : (execE Try.prog (c6 vs) [] [] [] 10 c29c (C29 us n lt lo lr keep g)).map (fun y => (look2 1 [0, 1] [2, 4, 7, 12, 13, 14] (y.1, y.2.1), y.2.2)) =
    some ((.normal, [rowB us, lvB lt lo lr], [(2, .int .i64 keep), (4, p1), (7, newS 0 n), (12, newS 0 n), (13, iN n), (14, iN 0)], true), [], [], []) := by kernel_rfl
theorem r29e (g : Nat → Value) : (execE Try.prog (c6 vs) [] [] [] 10 c29e (C29 us n lt lo lr keep g)).map (fun y => (look2 1 [0] [6] (y.1, y.2.1), y.2.2)) =
    some ((.ret, [rowB us], [(6, newS 0 n)], true), [], [], []) := by kernel_rfl
theorem r29x (i : Nat) (g : Nat → Value) : (execE Try.prog (c6 vs) [(15, .bool false)] [] [] 20 c29d (L29 us n lt lo lr keep i g)).map (fun y => (look2 1 [0, 1] [2, 4, 7] (y.1, y.2.1), y.2.2)) =
    some ((.exit 0, [rowB us, lvB lt lo lr], [(2, .int .i64 keep), (4, p1), (7, newS 0 n)], true), [(some (.bool (decide (Int.ofNat i < Int.ofNat n))), .bool false)], [], []) := by kernel_rfl
noncomputable def owe29 (i : Nat) (x : ViewV) : List Obl :=
  [(some (.bool (decide (Int.ofNat i < Int.ofNat n))), .bool true),
   (fstV ((aIndexAddr Try.prog 29 (rowS 0 n 22) (iN i)).map fun v => (v, none)), .pointer (some ⟨0, i * 7, none⟩)),
   (aLoad Try.prog (heapOf ([rowB us, lvB lt lo lr] ++ [.dead]) hp0).get 34 (.pointer (some ⟨0, i * 7, none⟩)), .agg ⟨vc x⟩)]
def see29 (i : Nat) (x : ViewV) : List (Tmp × Value) := [(15, .bool true), (17, .pointer (some ⟨0, i * 7, none⟩)), (18, .agg ⟨vc x⟩), (43, iN (i + 1))]
def nxt29 (i : Nat) : Obl := (some (.int .i64 (wrapF .i64 (Int.ofNat i + 1))), iN (i + 1))
/-- The one that is kept. -/
theorem r29f (i : Nat) (x : ViewV) (g : Nat → Value) : (execE Try.prog (c6 vs) (see29 i x ++ [(22, .bool false)]) [] [] 20 c29d (L29 us n lt lo lr keep i g)).map (fun y => (look2 1 [0, 1] [2, 4, 7, 12, 13, 14] (y.1, y.2.1), y.2.2)) =
    some ((.normal, [rowB us, lvB lt lo lr], [(2, .int .i64 keep), (4, p1), (7, newS 0 n), (12, newS 0 n), (13, iN n), (14, iN (i + 1))], true), owe29 us n lt lo lr i x ++ [(some (.bool (x.id != keep)), .bool false), nxt29 i], [], []) := by kernel_rfl
/-- One that is not told. -/
theorem r29g (i : Nat) (x : ViewV) (g : Nat → Value) : (execE Try.prog (c6 vs) (see29 i x ++ [(22, .bool true), (26, .bool false)]) [] [] 20 c29d (L29 us n lt lo lr keep i g)).map (fun y => (look2 1 [0, 1] [2, 4, 7, 12, 13, 14] (y.1, y.2.1), y.2.2)) =
    some ((.normal, [rowB us, lvB lt lo lr], [(2, .int .i64 keep), (4, p1), (7, newS 0 n), (12, newS 0 n), (13, iN n), (14, iN (i + 1))], true), owe29 us n lt lo lr i x ++ [(some (.bool (x.id != keep)), .bool true), (some (.bool (told x.n x.t x.o x.r x.d x.i)), .bool false), nxt29 i], [], []) := by kernel_rfl
def levX (x : ViewV) : Value := .agg #[.int .i64 (lev0 x.n x.t x.o x.r x.d x.i), .int .i64 (lev1 x.n x.t x.o x.r x.d x.i), .int .i64 (lev2 x.n x.t x.o x.r x.d x.i)]
/-- One at another level. -/
theorem r29h (i : Nat) (x : ViewV) (g : Nat → Value) : (execE Try.prog (c6 vs) (see29 i x ++ [(22, .bool true), (26, .bool true), (33, .bool false)]) [] [] 20 c29d (L29 us n lt lo lr keep i g)).map (fun y => (look2 1 [0, 1] [2, 4, 7, 12, 13, 14] (y.1, y.2.1), y.2.2)) =
    some ((.normal, [rowB us, lvB lt lo lr], [(2, .int .i64 keep), (4, p1), (7, newS 0 n), (12, newS 0 n), (13, iN n), (14, iN (i + 1))], true),
      owe29 us n lt lo lr i x ++ [(some (levA lt lo lr), levA lt lo lr), (some (.bool (x.id != keep)), .bool true), (some (.bool (told x.n x.t x.o x.r x.d x.i)), .bool true), (fstV ((aBin Try.prog .eql 46 (levX x) (levA lt lo lr)).map fun v => (v, none)), .bool false), nxt29 i], [], []) := by kernel_rfl
/-- One at the level. -/
theorem r29i (ws : List ViewV) (i : Nat) (x : ViewV) (g : Nat → Value) : (execE Try.prog (c6 vs) (see29 i x ++ [(22, .bool true), (26, .bool true), (33, .bool true), (41, .pointer (some ⟨0, i * 7, none⟩))]) [] [(1042, undef, [.put 0 (rowB ws)])] 20 c29d (L29 us n lt lo lr keep i g)).map (fun y => (look2 1 [0, 1] [2, 4, 7, 12, 13, 14] (y.1, y.2.1), y.2.2)) =
    some ((.normal, [rowB ws, lvB lt lo lr], [(2, .int .i64 keep), (4, p1), (7, newS 0 n), (12, newS 0 n), (13, iN n), (14, iN (i + 1))], true),
      owe29 us n lt lo lr i x ++ [(some (levA lt lo lr), levA lt lo lr), (some (.bool (x.id != keep)), .bool true), (some (.bool (told x.n x.t x.o x.r x.d x.i)), .bool true), (fstV ((aBin Try.prog .eql 46 (levX x) (levA lt lo lr)).map fun v => (v, none)), .bool true),
        (fstV ((aIndexAddr Try.prog 29 (rowS 0 n 22) (iN i)).map fun v => (v, none)), .pointer (some ⟨0, i * 7, none⟩)), nxt29 i], [],
      [((aStore Try.prog (heapOf [rowB us, lvB lt lo lr, .dead, .cells 34 (vc x) false] hp0).get 23 (.pointer (some ⟨0, i * 7 + 1, none⟩)) (tNull x.i)).map fun es => (undef, es), (undef, [.put 0 (rowB ws)]))]) := by kernel_rfl
end
theorem q29 (v : Value) (O : List Blk) (g : Nat → Value) : retVal Try.prog Try.f29 (stOf 45 g [(6, v)] O) = some v := by kernel_rfl
theorem s29a : codeSafe Try.prog 45 c29a = true := by kernel_rfl
theorem s29b : codeSafe Try.prog 45 c29b = true := by kernel_rfl
theorem s29c : codeSafe Try.prog 45 c29c = true := by kernel_rfl
theorem s29d : codeSafe Try.prog 45 c29d = true := by kernel_rfl
theorem s29e : codeSafe Try.prog 45 c29e = true := by kernel_rfl

/-! ### What it does -/
def levEq (lt lo lr : Int) (x : ViewV) : Bool := lev0 x.n x.t x.o x.r x.d x.i == lt && (lev1 x.n x.t x.o x.r x.d x.i == lo && (lev2 x.n x.t x.o x.r x.d x.i == lr && true))
theorem eql46 (lt lo lr : Int) (x : ViewV) : fstV ((aBin Try.prog .eql 46 (levX x) (levA lt lo lr)).map fun v => (v, none)) = some (.bool (levEq lt lo lr x)) := by
  have h : aBin Try.prog .eql 46 (levX x) (levA lt lo lr) = (andE (lev0 x.n x.t x.o x.r x.d x.i == lt) (andE (lev1 x.n x.t x.o x.r x.d x.i == lo) (andE (lev2 x.n x.t x.o x.r x.d x.i == lr) (some true)))).map .bool := by kernel_rfl
  rw [h]
  simp only [andE_some, levEq]
  rfl
def nullV (x : ViewV) : ViewV := ⟨x.id, true, 0, 0, 0, 0, x.i⟩
def isAt (lt lo lr keep : Int) (x : ViewV) : Bool := (x.id != keep) && (told x.n x.t x.o x.r x.d x.i && levEq lt lo lr x)
def fgt (lt lo lr keep : Int) (x : ViewV) : ViewV := bif isAt lt lo lr keep x then nullV x else x
def fgtI (lt lo lr keep : Int) (vs : List ViewV) (i : Nat) : List ViewV := (vs.take i).map (fgt lt lo lr keep) ++ vs.drop i
section
variable {lt lo lr keep : Int} {vs : List ViewV}
theorem fgtI_get {i : Nat} {x : ViewV} (h : vs[i]? = some x) : (fgtI lt lo lr keep vs i)[i]? = some x := by
  have hi : i < vs.length := (List.getElem?_eq_some_iff.1 h).1
  unfold fgtI
  rw [List.getElem?_append_right (by simp; omega)]
  simp only [List.length_map, List.length_take, Nat.min_eq_left (Nat.le_of_lt hi), Nat.sub_self, List.getElem?_drop, Nat.add_zero]
  exact h
theorem fgtI_succ {i : Nat} {x : ViewV} (h : vs[i]? = some x) : fgtI lt lo lr keep vs (i + 1) = (fgtI lt lo lr keep vs i).set i (fgt lt lo lr keep x) := by
  have hi : i < vs.length := (List.getElem?_eq_some_iff.1 h).1
  have e1 : vs.take (i + 1) = vs.take i ++ [x] := by rw [List.take_add_one, h]; rfl
  have e2 : vs.drop i = x :: vs.drop (i + 1) := by rw [List.drop_eq_getElem_cons hi, (List.getElem?_eq_some_iff.1 h).2]
  unfold fgtI
  rw [e1, e2, List.map_append, List.set_append_right _ _ (by simp; omega)]
  simp [Nat.min_eq_left (Nat.le_of_lt hi)]
theorem fgtI_same {i : Nat} {x : ViewV} (h : vs[i]? = some x) (hx : fgt lt lo lr keep x = x) : fgtI lt lo lr keep vs (i + 1) = fgtI lt lo lr keep vs i := by
  rw [fgtI_succ h, hx]
  have := fgtI_get (lt := lt) (lo := lo) (lr := lr) (keep := keep) h
  obtain ⟨h1, h2⟩ := List.getElem?_eq_some_iff.1 this
  conv => lhs; rw [← h2]
  exact List.set_getElem_self h1
theorem fgtI_all : fgtI lt lo lr keep vs vs.length = vs.map (fgt lt lo lr keep) := by unfold fgtI; simp
end
theorem put_row {us : List ViewV} {i k : Nat} {x y : ViewV} {ns : List Value} (hx : us[i]? = some x) (hk : k + ns.length ≤ 7) (hy : ∀ j, j < 7 → (vc y)[j]? = if k ≤ j ∧ j < k + ns.length then ns[j - k]? else (vc x)[j]?) :
    putL (vrow us) (i * 7 + k) ns = vrow (us.set i y) := by
  have hi : i < us.length := (List.getElem?_eq_some_iff.1 hx).1
  have hl := vrow_len us
  apply List.ext_getElem?
  intro j
  rw [putL_get]
  by_cases hj : j < us.length * 7
  · have hq : j / 7 < us.length := Nat.div_lt_of_lt_mul (by rw [Nat.mul_comm]; exact hj)
    have hr : j % 7 < 7 := Nat.mod_lt _ (by omega)
    have hs : j / 7 * 7 + j % 7 = j := by omega
    obtain ⟨u, hu⟩ : ∃ u, us[j / 7]? = some u := ⟨_, List.getElem?_eq_getElem hq⟩
    have g1 : (vrow us)[j]? = (vc u)[j % 7]? := by
      have := flat_get vc 7 us (fun _ _ => rfl) (j / 7) (j % 7) u hu hr
      rw [hs] at this; exact this
    by_cases hqi : j / 7 = i
    · have hux : u = x := by rw [hqi, hx] at hu; exact (Option.some.inj hu).symm
      subst hux
      have hset : (us.set i y)[j / 7]? = some y := by rw [hqi]; simp [hi]
      have g2 : (vrow (us.set i y))[j]? = (vc y)[j % 7]? := by
        have := flat_get vc 7 (us.set i y) (fun _ _ => rfl) (j / 7) (j % 7) y hset hr
        rw [hs] at this; exact this
      rw [g2, hy _ hr, g1]
      by_cases hc : k ≤ j % 7 ∧ j % 7 < k + ns.length
      · rw [if_pos hc, if_pos (by rw [hl]; omega)]
        congr 1; omega
      · rw [if_neg hc, if_neg (by rw [hl]; omega)]
    · have hset : (us.set i y)[j / 7]? = some u := by rw [List.getElem?_set_ne (by omega)]; exact hu
      have g2 : (vrow (us.set i y))[j]? = (vc u)[j % 7]? := by
        have := flat_get vc 7 (us.set i y) (fun _ _ => rfl) (j / 7) (j % 7) u hset hr
        rw [hs] at this; exact this
      rw [g2, g1, if_neg]
      intro hc
      have : i * 7 ≤ j ∧ j < i * 7 + 7 := by omega
      omega
  · rw [if_neg (by rw [hl]; omega), List.getElem?_eq_none (by rw [hl]; omega), List.getElem?_eq_none (by rw [vrow_len]; simp; omega)]
theorem size23 : tsize Try.prog 23 = some 6 := by kernel_rfl
theorem store_ok {us : List ViewV} {i : Nat} {x : ViewV} {get : Nat → Option Blk} (hg : get 0 = some (rowB us)) (hx : us[i]? = some x) :
    ((aStore Try.prog get 23 (.pointer (some ⟨0, i * 7 + 1, none⟩)) (tNull x.i)).map fun es => (undef, es)) = some (undef, [.put 0 (rowB (us.set i (nullV x)))]) := by
  have hi : i < us.length := (List.getElem?_eq_some_iff.1 hx).1
  have hcell : cellsL (tNull x.i) = [.bool true, .int .i64 0, .int .i64 0, .int .i64 0, .int .i64 0, .int .i64 x.i] := rfl
  have hput := put_row (k := 1) (y := nullV x) (ns := [.bool true, .int .i64 0, .int .i64 0, .int .i64 0, .int .i64 0, .int .i64 x.i]) hx (by simp) (fun j hj => by
    match j, hj with
    | 0, _ => rfl
    | 1, _ => rfl
    | 2, _ => rfl
    | 3, _ => rfl
    | 4, _ => rfl
    | 5, _ => rfl
    | 6, _ => rfl)
  unfold rowB at hg
  simp only [aStore, hg, size23, hcell]
  rw [if_pos]
  · rw [hput]; rfl
  · rw [Bool.and_eq_true, Bool.and_eq_true]
    refine ⟨⟨rfl, rfl⟩, decide_eq_true ?_⟩
    rw [vrow_len]; omega
theorem fix1 (us : List ViewV) : ∀ r : List Blk, ∀ i, i < 1 → ∀ o', (rowB us :: r)[i]? = some o' → Fixed 0 o' := by
  intro r i hi o' h
  have : i = 0 := by omega
  subst this
  simp at h
  subst h
  exact inert_fixed (row_block us) 0
end Go.Proofs.Ytiogdklmhpllfaa.LtA
namespace Go.Proofs.Ytiogdklmhpllfaa.LtA
open Go Go.Proofs Go.Proofs.Ytiogdklmhpllfaa.AI Go.RowKit

theorem call61 {vs : List ViewV} {hp : Hp} {b c : Nat} {o : Blk} (hb : hp.get b = some o) (hi : inertB o = true) (hr : vs = [] ∨ ∃ ty ro, o = .cells ty (vrow vs) ro) :
    c6 vs 61 [rowS b vs.length c] hp = some (newS hp.sz vs.length, heapOf [rowB vs, .dead] hp) := by
  show aCall Try.prog (E6 vs) 5 61 _ _ = _
  rw [aCall]
  have hE : E6 vs 61 = some fun _ args h => g61 vs args h := rfl
  rw [hE]
  exact g61_row hb hi hr
theorem call61n {hp : Hp} : c6 [] 61 [.slice none 0 0] hp = some (.slice none 0 0, heapOf [.dead] hp) := by
  show aCall Try.prog (E6 []) 5 61 _ _ = _
  rw [aCall]
  have hE : E6 [] 61 = some fun _ args h => g61 [] args h := rfl
  rw [hE]
  show g61 [] _ _ = _
  unfold g61
  rw [if_pos ⟨rfl, rfl⟩]
  rfl
theorem forget_fr (o : Blk) (ho : inertB o = true) (vs : List ViewV) (hn : vs.length < 1000000) (hrow : vs = [] ∨ ∃ ty ro, o = .cells ty (vrow vs) ro) (c : Nat) (lt lo lr keep : Int) (W : Base) :
    FRwp Try.prog 45 W (.seq c29a (.seq c29b (.seq (.seq c29c (.block 0 (.loop c29d))) c29e))) (B29 o vs.length c lt lo lr keep)
      (fun e st => e = .ret ∧ ∃ g, st = stOf 45 g [(6, newS 0 vs.length)] [rowB (vs.map (fgt lt lo lr keep))]) := by
  have hc := c6_ok vs hn
  refine FRwp.seq (Q1 := fun x st => x = .normal ∧ ∃ g, st = A29 o vs.length c lt lo lr keep g) (FRwp.pieceY hc follows 1 _ _ _ _ (r29a o vs vs.length c lt lo lr keep) Met.nil MetH.nil MetE.nil s29a rfl rfl (fun i hi o' h => ?_) fun g => ⟨rfl, g, rfl⟩) ?_ (fun x st hne hq => absurd hq.1 hne)
  · have : i = 0 := by omega
    subst this
    simp at h
    subst h
    exact inert_fixed ho 0
  rintro st ⟨-, g, rfl⟩
  refine FRwp.seq (Q1 := fun x st => x = .normal ∧ ∃ g, st = C29 vs vs.length lt lo lr keep g) (FRwp.pieceY hc follows 1 _ _ _ _ (r29b o vs vs.length c lt lo lr keep g) Met.nil (MetH.cons (call61 (by rw [heapOf0_get]; rfl) ho hrow) MetH.nil) MetE.nil s29b rfl rfl (fix1 vs _) fun g => ⟨rfl, g, rfl⟩) ?_ (fun x st hne hq => absurd hq.1 hne)
  rintro st ⟨-, g, rfl⟩
  refine FRwp.seq (Q1 := fun x st => x = .normal ∧ ∃ g, st = C29 (vs.map (fgt lt lo lr keep)) vs.length lt lo lr keep g) ?_ ?_ (fun x st hne hq => absurd hq.1 hne)
  · refine FRwp.seq (Q1 := fun x st => x = .normal ∧ ∃ g, st = L29 (fgtI lt lo lr keep vs 0) vs.length lt lo lr keep 0 g) (FRwp.pieceY hc follows 1 _ _ _ _ (r29c vs vs vs.length lt lo lr keep g) Met.nil MetH.nil MetE.nil s29c rfl rfl (fix1 vs _) fun g => ⟨rfl, g, by simp [fgtI]⟩) ?_ (fun x st hne hq => absurd hq.1 hne)
    rintro st ⟨-, g, rfl⟩
    refine FRwp.block ?_
    refine FRwp.loop (fun k st => ∃ i g, i ≤ vs.length ∧ k = vs.length - i ∧ st = L29 (fgtI lt lo lr keep vs i) vs.length lt lo lr keep i g) ?_ (k := vs.length) ⟨0, g, Nat.zero_le _, rfl, rfl⟩
    rintro k st ⟨i, g, hi, hk, rfl⟩
    have hf := fix1 (fgtI lt lo lr keep vs i)
    cases h15 : decide (Int.ofNat i < Int.ofNat vs.length) with
    | false =>
      refine FRwp.pieceY hc follows 1 _ _ _ _ (r29x vs (fgtI lt lo lr keep vs i) vs.length lt lo lr keep i g) (Met.cons (met_bool h15) Met.nil) MetH.nil MetE.nil s29d rfl rfl (hf _) fun g' => .inr ⟨by simp, ?_⟩
      show (if (0 : Nat) = 0 then _ else _)
      rw [if_pos rfl]
      have hii : i = vs.length := by simp at h15; omega
      exact ⟨rfl, g', by rw [hii, fgtI_all]⟩
    | true =>
      have hlt : i < vs.length := by simpa using h15
      obtain ⟨x, hx⟩ : ∃ x, vs[i]? = some x := ⟨_, List.getElem?_eq_getElem hlt⟩
      have hx' := fgtI_get (lt := lt) (lo := lo) (lr := lr) (keep := keep) hx
      have hmet : Met (owe29 (fgtI lt lo lr keep vs i) vs.length lt lo lr i x) := Met.cons (met_bool h15) (Met.cons (vidx_ok hlt) (Met.cons (vload_ok (.of (ty := 34) (ro := false) (by rw [heapOf0_get]; rfl)) hx') Met.nil))
      have hnx : (nxt29 i).1 = some (nxt29 i).2 := wrap_up (by omega)
      have hsame : isAt lt lo lr keep x = false → ∀ g', (Exit.normal = Exit.normal ∧ ∃ k', k' < k ∧ ∃ i_1 g, i_1 ≤ vs.length ∧ k' = vs.length - i_1 ∧ stOf 45 g' [(2, .int .i64 keep), (4, p1), (7, newS 0 vs.length), (12, newS 0 vs.length), (13, iN vs.length), (14, iN (i + 1))] [rowB (fgtI lt lo lr keep vs i), lvB lt lo lr] = L29 (fgtI lt lo lr keep vs i_1) vs.length lt lo lr keep i_1 g) := fun h g' =>
        ⟨rfl, vs.length - (i + 1), by omega, i + 1, g', by omega, rfl, by rw [fgtI_same hx (by unfold fgt; rw [h]; rfl)]⟩
      cases h22 : (x.id != keep) with
      | false => exact FRwp.pieceY hc follows 1 _ _ _ _ (r29f vs (fgtI lt lo lr keep vs i) vs.length lt lo lr keep i x g) (met_app hmet (Met.cons (met_bool h22) (Met.cons hnx Met.nil))) MetH.nil MetE.nil s29d rfl rfl (hf _) fun g' => .inl (hsame (by unfold isAt; rw [h22]; rfl) g')
      | true =>
        cases h26 : told x.n x.t x.o x.r x.d x.i with
        | false => exact FRwp.pieceY hc follows 1 _ _ _ _ (r29g vs (fgtI lt lo lr keep vs i) vs.length lt lo lr keep i x g) (met_app hmet (Met.cons (met_bool h22) (Met.cons (met_bool h26) (Met.cons hnx Met.nil)))) MetH.nil MetE.nil s29d rfl rfl (hf _) fun g' => .inl (hsame (by unfold isAt; rw [h22, h26]; rfl) g')
        | true =>
          cases h33 : levEq lt lo lr x with
          | false => exact FRwp.pieceY hc follows 1 _ _ _ _ (r29h vs (fgtI lt lo lr keep vs i) vs.length lt lo lr keep i x g) (met_app hmet (Met.cons rfl (Met.cons (met_bool h22) (Met.cons (met_bool h26) (Met.cons (by rw [eql46, h33]) (Met.cons hnx Met.nil)))))) MetH.nil MetE.nil s29d rfl rfl (hf _) fun g' => .inl (hsame (by unfold isAt; rw [h22, h26, h33]; rfl) g')
          | true =>
            have hat : isAt lt lo lr keep x = true := by unfold isAt; rw [h22, h26, h33]; rfl
            refine FRwp.pieceY hc follows 1 _ _ _ _ (r29i vs (fgtI lt lo lr keep vs i) vs.length lt lo lr keep ((fgtI lt lo lr keep vs i).set i (nullV x)) i x g) (met_app hmet (Met.cons rfl (Met.cons (met_bool h22) (Met.cons (met_bool h26) (Met.cons (by rw [eql46, h33]) (Met.cons (vidx_ok hlt) (Met.cons hnx Met.nil))))))) MetH.nil
              (MetE.cons (store_ok (by rw [heapOf0_get]; rfl) hx') MetE.nil) s29d rfl rfl (fix1 _ _) fun g' => .inl ⟨rfl, vs.length - (i + 1), by omega, i + 1, g', by omega, rfl, ?_⟩
            rw [fgtI_succ hx]
            unfold fgt
            rw [hat]
            rfl
  · rintro st ⟨-, g, rfl⟩
    exact FRwp.pieceY hc follows 1 _ _ _ _ (r29e vs (vs.map (fgt lt lo lr keep)) vs.length lt lo lr keep g) Met.nil MetH.nil MetE.nil s29e rfl rfl (fix1 _ _) fun g' => ⟨rfl, g', rfl⟩

section
variable (lt lo lr keep : Int)
def p0 : Value := .pointer (some ⟨0, 0, none⟩)
def nilS : Value := .slice none 0 0
abbrev N29a (g : Nat → Value) : St := stOf 45 g [(0, nilS), (2, .int .i64 keep), (4, p0)] [lvB lt lo lr]
abbrev N29c (g : Nat → Value) : St := stOf 45 g [(2, .int .i64 keep), (4, p0), (7, nilS)] [lvB lt lo lr]
abbrev N29l (g : Nat → Value) : St := stOf 45 g [(2, .int .i64 keep), (4, p0), (7, nilS), (12, nilS), (13, iN 0), (14, iN 0)] [lvB lt lo lr]
theorem n29a : (execE Try.prog (c6 []) [] [] [] 10 c29a ⟨tmsOf [nilS, levA lt lo lr, .int .i64 keep] 0 .leaf, heapOf [.dead] hp0, []⟩).map (fun y => (look2 0 [1] [0, 2, 4] (y.1, y.2.1), y.2.2)) = some ((.normal, [lvB lt lo lr], [(0, nilS), (2, .int .i64 keep), (4, p0)], true), [], [], []) := by kernel_rfl
theorem n29b (g : Nat → Value) : (execE Try.prog (c6 []) [] [(11, nilS, [.dead])] [] 10 c29b (N29a lt lo lr keep g)).map (fun y => (look2 0 [0] [2, 4, 7] (y.1, y.2.1), y.2.2)) =
    some ((.normal, [lvB lt lo lr], [(2, .int .i64 keep), (4, p0), (7, nilS)], true), [], [(c6 [] 61 [nilS] (heapOf ([lvB lt lo lr] ++ [.dead]) hp0), (nilS, heapOf [.dead] (heapOf ([lvB lt lo lr] ++ [.dead]) hp0)))], []) := by kernel_rfl
theorem n29c (g : Nat → Value) : (execE Try.prog (c6 []) [] [] [] 10 c29c (N29c lt lo lr keep g)).map (fun y => (look2 0 [0] [2, 4, 7, 12, 13, 14] (y.1, y.2.1), y.2.2)) =
    some ((.normal, [lvB lt lo lr], [(2, .int .i64 keep), (4, p0), (7, nilS), (12, nilS), (13, iN 0), (14, iN 0)], true), [], [], []) := by kernel_rfl
theorem n29x (g : Nat → Value) : (execE Try.prog (c6 []) [] [] [] 20 c29d (N29l lt lo lr keep g)).map (fun y => (look2 0 [0] [2, 4, 7] (y.1, y.2.1), y.2.2)) =
    some ((.exit 0, [lvB lt lo lr], [(2, .int .i64 keep), (4, p0), (7, nilS)], true), [], [], []) := by kernel_rfl
theorem n29e (g : Nat → Value) : (execE Try.prog (c6 []) [] [] [] 10 c29e (N29c lt lo lr keep g)).map (fun y => (look2 0 [] [6] (y.1, y.2.1), y.2.2)) =
    some ((.ret, [], [(6, nilS)], true), [], [], []) := by kernel_rfl
theorem forget_nil (W : Base) : FRwp Try.prog 45 W (.seq c29a (.seq c29b (.seq (.seq c29c (.block 0 (.loop c29d))) c29e))) ⟨tmsOf [nilS, levA lt lo lr, .int .i64 keep] 0 .leaf, heapOf [.dead] hp0, []⟩
      (fun e st => e = .ret ∧ ∃ g, st = stOf 45 g [(6, nilS)] []) := by
  have hc := c6_ok [] (by simp)
  have h0 : ∀ (O : List Blk) (i : Nat), i < 0 → ∀ o, O[i]? = some o → Fixed 0 o := fun O i hi => absurd hi (Nat.not_lt_zero _)
  refine FRwp.seq (Q1 := fun x st => x = .normal ∧ ∃ g, st = N29a lt lo lr keep g) (FRwp.pieceY hc follows 0 _ _ _ _ (n29a lt lo lr keep) Met.nil MetH.nil MetE.nil s29a rfl rfl (h0 _) fun g => ⟨rfl, g, rfl⟩) ?_ (fun x st hne hq => absurd hq.1 hne)
  rintro st ⟨-, g, rfl⟩
  refine FRwp.seq (Q1 := fun x st => x = .normal ∧ ∃ g, st = N29c lt lo lr keep g) (FRwp.pieceY hc follows 0 _ _ _ _ (n29b lt lo lr keep g) Met.nil (MetH.cons call61n MetH.nil) MetE.nil s29b rfl rfl (h0 _) fun g => ⟨rfl, g, rfl⟩) ?_ (fun x st hne hq => absurd hq.1 hne)
  rintro st ⟨-, g, rfl⟩
  refine FRwp.seq (Q1 := fun x st => x = .normal ∧ ∃ g, st = N29c lt lo lr keep g) ?_ ?_ (fun x st hne hq => absurd hq.1 hne)
  · refine FRwp.seq (Q1 := fun x st => x = .normal ∧ ∃ g, st = N29l lt lo lr keep g) (FRwp.pieceY hc follows 0 _ _ _ _ (n29c lt lo lr keep g) Met.nil MetH.nil MetE.nil s29c rfl rfl (h0 _) fun g => ⟨rfl, g, rfl⟩) ?_ (fun x st hne hq => absurd hq.1 hne)
    rintro st ⟨-, g, rfl⟩
    refine FRwp.block ?_
    refine FRwp.loop (fun k st => ∃ g, st = N29l lt lo lr keep g) ?_ (k := 0) ⟨g, rfl⟩
    rintro k st ⟨g, rfl⟩
    refine FRwp.pieceY hc follows 0 _ _ _ _ (n29x lt lo lr keep g) Met.nil MetH.nil MetE.nil s29d rfl rfl (h0 _) fun g' => .inr ⟨by simp, ?_⟩
    show (if (0 : Nat) = 0 then _ else _)
    rw [if_pos rfl]
    exact ⟨rfl, g', rfl⟩
  · rintro st ⟨-, g, rfl⟩
    exact FRwp.pieceY hc follows 0 _ _ _ _ (n29e lt lo lr keep g) Met.nil MetH.nil MetE.nil s29e rfl rfl (h0 _) fun g' => ⟨rfl, g', rfl⟩
end

/-- A row of views in a caller's heap, not nil. -/
def TR (vs : List ViewV) (s : Value) (hp : Hp) : Prop := ∃ b c o, s = rowS b vs.length c ∧ hp.get b = some o ∧ inertB o = true ∧ (vs = [] ∨ ∃ ty ro, o = .cells ty (vrow vs) ro)
theorem TR.not_nil {vs : List ViewV} {hp : Hp} (h : TR vs nilS hp) : False := by
  obtain ⟨b, c, o, h, _⟩ := h
  simp [rowS, nilS] at h
open Classical in
noncomputable def g29 (vs : List ViewV) : HeapFn := fun args hp => match args with
  | [s, .agg cs, .int .i64 keep] => match cs.toList with
    | [.int .i64 lt, .int .i64 lo, .int .i64 lr] =>
      if s = nilS ∧ vs = [] then some (nilS, heapOf ([] ++ [.dead]) hp)
      else if TR vs s hp then some (newS hp.sz vs.length, heapOf ([rowB (vs.map (fgt lt lo lr keep))] ++ [.dead]) hp)
      else none
    | _ => none
  | _ => none
open Classical in
theorem g29_nil {hp : Hp} {lt lo lr keep : Int} : g29 [] [nilS, levA lt lo lr, .int .i64 keep] hp = some (nilS, heapOf [.dead] hp) := by
  show (if nilS = nilS ∧ ([] : List ViewV) = [] then _ else _) = _
  rw [if_pos ⟨rfl, rfl⟩]
  rfl
open Classical in
theorem g29_row {vs : List ViewV} {hp : Hp} {s : Value} {lt lo lr keep : Int} (hT : TR vs s hp) : g29 vs [s, levA lt lo lr, .int .i64 keep] hp = some (newS hp.sz vs.length, heapOf [rowB (vs.map (fgt lt lo lr keep)), .dead] hp) := by
  show (if s = nilS ∧ vs = [] then _ else if TR vs s hp then _ else _) = _
  rw [if_neg (by rintro ⟨rfl, _⟩; exact hT.not_nil), if_pos hT]
  rfl
theorem ntmps29 : Try.f29.ntmps = 45 := by kernel_rfl
theorem hk29 (vs : List ViewV) (hn : vs.length < 1000000) : CallGoal Try.prog 29 (g29 vs) := scan_goal follows Try.func29 body29 (by kernel_rfl) fun args hp v hp' h hk => by
  unfold g29 at h
  rw [ntmps29]
  split at h
  case h_2 => cases h
  rename_i s cs keep
  split at h
  case h_2 => cases h
  rename_i lt lo lr hcs
  obtain rfl := arr_of hcs
  split at h
  · rename_i hN
    obtain ⟨rfl, rfl⟩ := hN
    cases h
    refine ⟨[], [], [], rfl, rfl, rfl, rfl, (fun b hb => by cases hb), rfl, (by simp), fun W => ?_⟩
    have e1 : [nilS, .agg [.int .i64 lt, .int .i64 lo, .int .i64 lr].toArray, .int .i64 keep].map (sh3 [] 0) = [nilS, levA lt lo lr, .int .i64 keep] := by simp [sh3, sh2, sh1, nilS, levA]
    rw [e1]
    refine FRwp.mono (forget_nil lt lo lr keep W) fun e st q => ?_
    obtain ⟨rfl, g, rfl⟩ := q
    exact ⟨.inr rfl, rfl, _, q29 _ _ g, rfl, (fun b hb => by cases hb), rfl, rfl⟩
  · split at h
    · rename_i hT
      obtain ⟨b, c, o, rfl, hb, hi, hr⟩ := hT
      cases h
      refine ⟨[b], [0], [rowB (vs.map (fgt lt lo lr keep))], rfl, rfl, rfl, rfl, fun b' hb' => ?_, rfl, (by simp), fun W => ?_⟩
      · have : b' = b := by simpa using hb'
        subst this
        exact ⟨o, hb, inert_start hi⟩
      · have e1 : [rowS b vs.length c, .agg [.int .i64 lt, .int .i64 lo, .int .i64 lr].toArray, .int .i64 keep].map (sh3 [b] 0) = [rowS 0 vs.length c, levA lt lo lr, .int .i64 keep] := by
          simp [sh3, sh2, sh1, rho, idxOf, rowS, levA]
        rw [e1, start1 hb hi]
        refine FRwp.mono (forget_fr (roBlk o) (ro_inert hi) vs hn (ro_row hr) c lt lo lr keep W) fun e st q => ?_
        obtain ⟨rfl, g, rfl⟩ := q
        have hget : (stOf 45 g [(6, newS 0 vs.length)] [rowB (vs.map (fgt lt lo lr keep))]).hp.get 0 = some (rowB (vs.map (fgt lt lo lr keep))) := by
          show (heapOf _ hp0).get 0 = _
          rw [heapOf0_get]; rfl
        refine ⟨.inr rfl, rfl, _, q29 _ _ g, rfl, fun b' hb' => ?_, by simp [sh3, sh2, sh1, rho, idxOf, newS], ?_⟩
        · have : b' = 0 := by simpa using hb'
          subst this
          exact ⟨_, hget, ok2_inert (row_block _), rfl⟩
        · simp only [outOf, List.map_cons, List.map_nil, hget, Option.getD_some]
          exact congrArg (fun z => [z]) (inert_shBlk (o := rowB (vs.map (fgt lt lo lr keep))) (row_block _) [0] hp.sz).symm
    · cases h
end Go.Proofs.Ytiogdklmhpllfaa.LtA
namespace Go.Proofs.Ytiogdklmhpllfaa.LtA
open Go Go.Proofs Go.Proofs.Ytiogdklmhpllfaa.AI Go.RowKit

/-! ### Check -/
theorem noFix (O : List Blk) : ∀ i, i < 0 → ∀ o, O[i]? = some o → Fixed 0 o := fun i hi => absurd hi (Nat.not_lt_zero _)
open Classical in
noncomputable def g18 (vs : List ViewV) : HeapFn := fun args hp => match args with
  | [s] => if s = nilS ∧ vs = [] ∨ TR vs s hp then some (errI (rightB vs), heapOf ([] ++ [.dead]) hp) else none
  | _ => none
open Classical in
theorem g18_of {vs : List ViewV} {hp : Hp} {s : Value} (h : s = nilS ∧ vs = [] ∨ TR vs s hp) : g18 vs [s] hp = some (errI (rightB vs), heapOf [.dead] hp) := by
  show (if s = nilS ∧ vs = [] ∨ TR vs s hp then _ else _) = _
  rw [if_pos h]
  rfl
end Go.Proofs.Ytiogdklmhpllfaa.LtA
namespace Go.Proofs.Ytiogdklmhpllfaa.LtA
open Go Go.Proofs Go.Proofs.Ytiogdklmhpllfaa.AI Go.RowKit

def gOver : HeapFn
  | [.slice (some ⟨a, off, none⟩) (_ + 1) _, .slice (some ⟨b, _, none⟩) _ _], hp => match Nat.beq a b, hp.get a, hp.get b with
    | false, some (.cells _ cs1 false), some (.cells _ (_ :: _) false) => match Nat.ble off cs1.length with
      | true => some (.bool false, hp)
      | false => none
    | _, _, _ => none
  | _, _ => none
theorem hkOver : CallGoal Try.prog 82 gOver := by
  intro args hp v hp' he hk
  unfold gOver at he
  split at he
  case h_2 => cases he
  rename_i a off la ca b offb lb cb
  split at he
  case h_2 => cases he
  rename_i t1 cs1 t2 y ys hab ha hb
  split at he
  case h_2 => cases he
  rename_i hoff
  cases he
  refine ⟨hk, Nat.le_refl _, fun m h w args' hfr s ra => .inl ?_⟩
  obtain ⟨v1, bs, e1, r1, r2⟩ := ra.of_cons
  obtain ⟨v2, bs2, e2, r3, r4⟩ := r2.of_cons
  have e3 := r4.of_nil
  subst e3
  have ha' := ovr_sub hk h a _ ha
  have hb' := ovr_sub hk h b _ hb
  obtain ⟨_, _, ra1, oa, capa, q1, rfl, hla, hha⟩ := r1.of_slice
  obtain ⟨_, _, rb1, ob, capb, q2, rfl, hlb, hhb⟩ := r3.of_slice
  cases q1
  cases q2
  have ea : args' = #[.slice (some ⟨ra1, oa, none⟩) (la + 1) capa, .slice (some ⟨rb1, ob, none⟩) lb capb] := by cases args'; simp_all
  subst ea
  rcases hha with hd | ⟨δ1, E1, hma, hoa, _⟩
  · rw [ha'] at hd; cases hd
  rcases hhb with hd | ⟨δ2, E2, hmb, _, _⟩
  · rw [hb'] at hd; cases hd
  obtain ⟨c1, f1, g1, g2, g3, g4, g5⟩ := Sim.row (s := s) ha' hma
  obtain ⟨c2, f2, k1, k2, k3, k4, k5⟩ := Sim.row (s := s) hb' hmb
  dsimp only at g1 g2 g3 k1 k2 k3
  have hne : ra1 ≠ rb1 := by
    intro e
    have := s.inj a b _ _ hma hmb (by unfold rw?; rw [ha']; rfl) (by unfold live?; rw [hb']) e
    subst this
    have hh : Nat.beq a a = true := Nat.beq_refl a
    rw [hh] at hab
    cases hab
  have hoa' : oa = δ1 + off := by
    rcases hoa with h1 | h1
    · exact h1
    · omega
  have hle : off ≤ cs1.length := Nat.le_of_ble_eq_true hoff
  have hfz : ∀ j, j ≤ c1.size → w.frozen? ⟨ra1, j, none⟩ = false := fun j hj => frozen_of g1 (g5.1 rfl j hj)
  have hrun := Lib.run_overlaps_apart w 29 4 34 Try.underlying29 7 (fun w => by kernel_rfl) ⟨ra1, oa, none⟩ ⟨rb1, ob, none⟩ (la + 1) capa lb capb hne t1 t2 c1.size c2.size
    (by unfold World.shape?; rw [g1]) (by unfold World.shape?; rw [k1]) (by simp at k2; omega) (hfz oa (by omega)) (hfz c1.size (Nat.le_refl _))
  refine ⟨.bool false, w, ?_, m, Go1.refl s, .flat rfl⟩
  rw [run_callFunc_extern Try.func82 (by kernel_rfl) (by kernel_rfl) (by kernel_rfl) (e := Extern.SlicesOverlaps.overlaps #[29, 29] #[4]) (by kernel_rfl), hrun]
  rfl
end Go.Proofs.Ytiogdklmhpllfaa.LtA
namespace Go.Proofs.Ytiogdklmhpllfaa.LtA
open Go Go.Proofs Go.Proofs.Ytiogdklmhpllfaa.AI Go.RowKit

noncomputable abbrev code28 : Code := .seq c28a (.seq c28b (.seq (.seq c28c (.block 0 (.loop c28d))) c28e))
theorem start2 {hp : Hp} {b1 b2 : Nat} {o1 o2 : Blk} (h1 : hp.get b1 = some o1) (h2 : hp.get b2 = some o2) (i1 : inertB o1 = true) (i2 : inertB o2 = true) : startHp [b1, b2] hp = heapOf [roBlk o1, roBlk o2, .dead] hp0 := by
  unfold startHp
  simp [h1, h2, inert_shBlk i1, inert_shBlk i2]
open Classical in
/-- Two rows, in two blocks, neither of them nil. -/
noncomputable def g28 (us vs : List ViewV) : HeapFn := fun args hp => match args with
  | [s, t] => if ∃ b1 c1 o1 b2 c2 o2, s = rowS b1 us.length c1 ∧ t = rowS b2 vs.length c2 ∧ b1 ≠ b2 ∧ hp.get b1 = some o1 ∧ hp.get b2 = some o2 ∧ inertB o1 = true ∧ inertB o2 = true ∧ (us = [] ∨ ∃ ty ro, o1 = .cells ty (vrow us) ro) ∧ (vs = [] ∨ ∃ ty ro, o2 = .cells ty (vrow vs) ro)
    then some (.bool (sameRow us vs), heapOf ([] ++ [.dead]) hp) else none
  | _ => none
theorem ntmps28 : Try.f28.ntmps = 26 := by kernel_rfl
end Go.Proofs.Ytiogdklmhpllfaa.LtA
