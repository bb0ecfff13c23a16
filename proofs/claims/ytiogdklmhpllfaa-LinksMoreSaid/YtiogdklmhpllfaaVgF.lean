/- views.rising: the ids of those that are asked for, the lowest one first. -/
import Derived.Test.YtiogdklmhpllfaaVgE
import Derived.Test.YtiogdklmhpllfaaVgD
set_option linter.unusedVariables false
set_option linter.unusedSimpArgs false
set_option maxRecDepth 100000
namespace Go.Proofs.Ytiogdklmhpllfaa.LtA
open Go Go.Proofs Go.Proofs.Ytiogdklmhpllfaa.AI Go.RowKit Go.Proofs.Ytiogdklmhpllfaa.Sort

/-! ### Rows of ints -/
def icell (x : Int) : Value := .int .i64 x
def iB (ids : List Int) : Blk := .cells 3 (ids.map icell) false
def newI (b k : Nat) : Value := .slice (some ⟨b, 0, none⟩) k 4
theorem iB_inert (ids : List Int) : inertB (iB ids) = true := by
  show List.all _ inert = true
  rw [List.all_map]
  exact List.all_eq_true.2 fun x _ => rfl
theorem underlying31 : Try.prog.underlying 31 = some (.slice 3) := by kernel_rfl
theorem info3 : ∃ i, Try.prog.info? 3 = some i ∧ i.size = 1 ∧ i.bytes = 8 := by
  have h : (Try.prog.info? 3).map (fun i => (i.size, i.bytes)) = some (1, 8) := by kernel_rfl
  obtain ⟨i, h1, h2⟩ := Option.map_eq_some_iff.1 h
  simp only [Prod.mk.injEq] at h2
  exact ⟨i, h1, h2.1, h2.2⟩
theorem zero3 : ∃ z, tzero Try.prog 3 = some z ∧ z.length = 1 := by
  have h : (tzero Try.prog 3).map (fun z => z.length) = some 1 := by kernel_rfl
  obtain ⟨z, h1, h2⟩ := Option.map_eq_some_iff.1 h
  exact ⟨z, h1, h2⟩
theorem app_int {get : Nat → Option Blk} {sz b b2 k : Nat} {ids : List Int} {x : Int} (hb : get b = some (iB ids)) (hb2 : get b2 = some (.cells 3 [icell x] false)) (hk : k = ids.length) (hl : k < 2000000) :
    aAppend Try.prog get sz [31, 31] [newI b k, newI b2 1] = some (newI sz (k + 1), [.put b .dead, .push (iB (ids ++ [x]))]) := by
  subst hk
  obtain ⟨i, hi, h1, h8⟩ := info3
  obtain ⟨z, hz, hzl⟩ := zero3
  unfold iB at hb
  have hsrc : aSrc Try.prog get 1 z (.slice 3) (newI b2 1) = some ([icell x], 1) := by
    unfold aSrc newI
    simp only [srcLen, srcCells, hb2]
    rw [if_neg (by omega), if_neg (by omega), getR_all (n := 1 * 1) rfl]
    rfl
  have hg : getR (ids.map icell) 0 (ids.length * 1) = some (ids.map icell) := getR_all (by simp)
  unfold aAppend
  simp only [underlying31, hi, hz, h1, h8, hzl]
  rw [if_neg (by decide)]
  simp only [hsrc]
  rw [if_neg (by simp [isOne, icell])]
  simp only [newI]
  rw [if_neg (by omega), if_neg (by omega)]
  simp only [hb, hg]
  rw [if_neg (by omega), if_pos (by decide), if_neg (by simp)]
  unfold iB
  rw [List.map_append]
  rfl
def rowIv (ids : List Int) (b : Nat) : Value := match ids with
  | [] => nilS
  | _ :: _ => newI b ids.length
def rowIO (ids : List Int) : List Blk := match ids with
  | [] => []
  | _ :: _ => [iB ids]

/-! ### Its runs -/
noncomputable def E58 : Ext := extG (extH Try.prog [(17, g17)]) [(78, G78)]
noncomputable def c58 : CallF := aCall Try.prog E58 5
/-- A function value that holds on to one variable. -/
def Cl (f : FuncId) (b : Nat) : Value := .func (.func f) #[] #[pb b 0]
section
variable (o ob : Blk) (f : FuncId) (n c i k : Nat) (ws us : List ViewV) (ids : List Int) (x : ViewV) (b : Bool) (g : Nat → Value)
def hN58 (o ob : Blk) : Hp := heapOf ([o, ob] ++ [.dead]) hp0
def hR58 (o ob : Blk) (ws : List ViewV) : Hp := heapOf ([o, rowB ws, ob] ++ [.dead]) hp0
end
end Go.Proofs.Ytiogdklmhpllfaa.LtA
namespace Go.Proofs.Ytiogdklmhpllfaa.LtA
open Go Go.Proofs Go.Proofs.Ytiogdklmhpllfaa.AI Go.RowKit Go.Proofs.Ytiogdklmhpllfaa.Sort

/-- The ids of those that are asked for, the lowest one first. -/
def idsP (p : ViewV → Bool) (vs : List ViewV) : List Int := (ssort ltV (vs.filter p)).map fun x => x.id
theorem fixOO {o ob : Blk} (ho : inertB o = true) (hob : inertB ob = true) : ∀ r : List Blk, ∀ i, i < 2 → ∀ o', (o :: ob :: r)[i]? = some o' → Fixed 0 o' := by
  intro r i hi o' h
  match i, hi with
  | 0, _ => simp at h; subst h; exact inert_fixed ho 0
  | 1, _ => simp at h; subst h; exact inert_fixed hob 0
section
variable (o ob : Blk) (f : FuncId) (n c : Nat)
end
/-- What a function value is of: its answers at the two heaps of rising's own frame. -/
structure Asks (f : FuncId) (own : ViewV) (p : ViewV → Bool) : Prop where
  known : ∀ x, p x = true → Kn x
  one : ∀ o x, c58 f [hcA x, pb 1 0] ((hN58 o (.cells 23 (hcL own) true)).push (vB x)) = some (.bool (p x), heapOf [hB x] ((hN58 o (.cells 23 (hcL own) true)).push (vB x)))
  two : ∀ o ws x, c58 f [hcA x, pb 2 0] ((hR58 o (.cells 23 (hcL own) true) ws).push (vB x)) = some (.bool (p x), heapOf [hB x] ((hR58 o (.cells 23 (hcL own) true) ws).push (vB x)))
open Classical in
noncomputable def g58 (f : FuncId) (own : ViewV) (p : ViewV → Bool) (vs : List ViewV) : HeapFn := fun args hp => match args with
  | [s, v] => if TN vs s hp ∧ ∃ b2, v = Cl f b2 ∧ hp.get b2 = some (hB own) ∧ (∀ b n c, s = rowS b n c → b ≠ b2) then some (rowIv (idsP p vs) hp.sz, heapOf (rowIO (idsP p vs) ++ [.dead]) hp) else none
  | _ => none
end Go.Proofs.Ytiogdklmhpllfaa.LtA
namespace Go.Proofs.Ytiogdklmhpllfaa.LtA
open Go Go.Proofs Go.Proofs.Ytiogdklmhpllfaa.AI Go.RowKit Go.Proofs.Ytiogdklmhpllfaa.Sort

def ownI (ids : List Int) : Blk := match ids with
  | [] => .dead
  | _ :: _ => iB ids
theorem pad_rowI {k : HeapFn} {args : List Value} {hp : Hp} {v : Value} {ids : List Int} (h : k args hp = some (v, heapOf (rowIO ids ++ [.dead]) hp)) : padF k args hp = some (v, heapOf [ownI ids, .dead] hp) := by
  cases ids with
  | nil => exact pad_one h
  | cons => exact pad_two h
/-! ### Below -/
def pr24 (own x : ViewV) : Bool := ltV x own
noncomputable def E24 (own : ViewV) (vs : List ViewV) : Ext := extG (extH Try.prog []) [(58, g58 59 own (pr24 own) vs)]
noncomputable def c24 (own : ViewV) (vs : List ViewV) : CallF := aCall Try.prog (E24 own vs) 5
section
variable (o : Blk) (own : ViewV) (vs : List ViewV) (n c k : Nat) (ids : List Int)
end
open Classical in
theorem c24_58 {own : ViewV} {vs : List ViewV} {s : Value} {b2 : Nat} {hp : Hp} (hT : TN vs s hp) (hb : hp.get b2 = some (hB own)) (hne : ∀ b n c, s = rowS b n c → b ≠ b2) : c24 own vs 58 [s, Cl 59 b2] hp = some (rowIv (idsP (pr24 own) vs) hp.sz, heapOf (rowIO (idsP (pr24 own) vs) ++ [.dead]) hp) := by
  show aCall Try.prog (E24 own vs) 5 58 _ _ = _
  rw [aCall]
  have hE : E24 own vs 58 = some fun _ args h => g58 59 own (pr24 own) vs args h := rfl
  rw [hE]
  show (if TN vs s hp ∧ ∃ b, Cl 59 b2 = Cl 59 b ∧ hp.get b = some (hB own) ∧ (∀ b' n c, s = rowS b' n c → b' ≠ b) then _ else _) = _
  rw [if_pos ⟨hT, b2, rfl, hb, hne⟩]
open Classical in
noncomputable def g24 (vs : List ViewV) : HeapFn := fun args hp => match args with
  | [s, .agg cs] => match cs.toList with
    | [.bool n, .int .i64 t, .int .i64 o, .int .i64 r, .int .i64 d, .int .i64 i] =>
      if TN vs s hp then some (rowIv (idsP (pr24 ⟨0, n, t, o, r, d, i⟩) vs) hp.sz, heapOf (rowIO (idsP (pr24 ⟨0, n, t, o, r, d, i⟩) vs) ++ [.dead]) hp) else none
    | _ => none
  | _ => none
noncomputable def G24 : HeapFn := padF (atRow (fun _ => True) g24)
open Classical in
theorem G24_of {vs : List ViewV} {s : Value} {hp : Hp} (own : ViewV) (h : TN vs s hp) (hn : vs.length < 1000000) : G24 [s, hcA own] hp = some (rowIv (idsP (pr24 own) vs) hp.sz, heapOf [ownI (idsP (pr24 own) vs), .dead] hp) := by
  unfold G24
  refine pad_rowI ?_
  rw [atRow_of h hn trivial]
  show (if TN vs s hp then _ else _) = _
  rw [if_pos h]
  rfl
/-! ### Above -/
def pr25 (own x : ViewV) : Bool := ltV own x
noncomputable def E25 (own : ViewV) (vs : List ViewV) : Ext := extG (extH Try.prog []) [(58, g58 60 own (pr25 own) vs)]
noncomputable def c25 (own : ViewV) (vs : List ViewV) : CallF := aCall Try.prog (E25 own vs) 5
section
variable (o : Blk) (own : ViewV) (vs : List ViewV) (n c k : Nat) (ids : List Int)
end
open Classical in
theorem c25_58 {own : ViewV} {vs : List ViewV} {s : Value} {b2 : Nat} {hp : Hp} (hT : TN vs s hp) (hb : hp.get b2 = some (hB own)) (hne : ∀ b n c, s = rowS b n c → b ≠ b2) : c25 own vs 58 [s, Cl 60 b2] hp = some (rowIv (idsP (pr25 own) vs) hp.sz, heapOf (rowIO (idsP (pr25 own) vs) ++ [.dead]) hp) := by
  show aCall Try.prog (E25 own vs) 5 58 _ _ = _
  rw [aCall]
  have hE : E25 own vs 58 = some fun _ args h => g58 60 own (pr25 own) vs args h := rfl
  rw [hE]
  show (if TN vs s hp ∧ ∃ b, Cl 60 b2 = Cl 60 b ∧ hp.get b = some (hB own) ∧ (∀ b' n c, s = rowS b' n c → b' ≠ b) then _ else _) = _
  rw [if_pos ⟨hT, b2, rfl, hb, hne⟩]
open Classical in
noncomputable def g25 (vs : List ViewV) : HeapFn := fun args hp => match args with
  | [s, .agg cs] => match cs.toList with
    | [.bool n, .int .i64 t, .int .i64 o, .int .i64 r, .int .i64 d, .int .i64 i] =>
      if TN vs s hp then some (rowIv (idsP (pr25 ⟨0, n, t, o, r, d, i⟩) vs) hp.sz, heapOf (rowIO (idsP (pr25 ⟨0, n, t, o, r, d, i⟩) vs) ++ [.dead]) hp) else none
    | _ => none
  | _ => none
noncomputable def G25 : HeapFn := padF (atRow (fun _ => True) g25)
open Classical in
theorem G25_of {vs : List ViewV} {s : Value} {hp : Hp} (own : ViewV) (h : TN vs s hp) (hn : vs.length < 1000000) : G25 [s, hcA own] hp = some (rowIv (idsP (pr25 own) vs) hp.sz, heapOf [ownI (idsP (pr25 own) vs), .dead] hp) := by
  unfold G25
  refine pad_rowI ?_
  rw [atRow_of h hn trivial]
  show (if TN vs s hp then _ else _) = _
  rw [if_pos h]
  rfl
end Go.Proofs.Ytiogdklmhpllfaa.LtA
namespace Go.Proofs.Ytiogdklmhpllfaa.LtA
open Go Go.Proofs Go.Proofs.Ytiogdklmhpllfaa.AI Go.RowKit Go.Proofs.Ytiogdklmhpllfaa.Sort

noncomputable def E21 : Ext := extH Try.prog [(57, g57), (17, g17)]
noncomputable def c21 : CallF := aCall Try.prog E21 5
theorem c21_ok : CallOk Try.prog c21 := aCall_sound (by unfold E21; exact extH_ok (.cons hk57 (.cons hk17 .nil))) follows 5
noncomputable def fb21 : Code := (Try.f21.body).getD .skip
noncomputable def c21a : Code := sL fb21
noncomputable def c21b : Code := sL (sR fb21)
noncomputable def c21c : Code := sL (sR (sR fb21))
noncomputable def c21d : Code := sL (sL (sR (sR (sR fb21))))
noncomputable def c21e : Code := unL (unB (sR (sL (sR (sR (sR fb21))))))
noncomputable def c21f : Code := sR (sR (sR (sR fb21)))
noncomputable abbrev code21 : Code := .seq c21a (.seq c21b (.seq c21c (.seq (.seq c21d (.block 0 (.loop c21e))) c21f)))
theorem body21 : Try.f21.body = some code21 := by kernel_rfl
theorem ntmps21 : Try.f21.ntmps = 33 := by kernel_rfl
theorem s21 : codeSafe Try.prog 33 code21 = true := by kernel_rfl
theorem s21a : codeSafe Try.prog 33 c21a = true := by kernel_rfl
theorem s21b : codeSafe Try.prog 33 c21b = true := by kernel_rfl
theorem s21c : codeSafe Try.prog 33 c21c = true := by kernel_rfl
theorem s21d : codeSafe Try.prog 33 c21d = true := by kernel_rfl
theorem s21e : codeSafe Try.prog 33 c21e = true := by kernel_rfl
theorem s21f : codeSafe Try.prog 33 c21f = true := by kernel_rfl
theorem q21 (x : ViewV) (b : Bool) (g : Nat → Value) : retVal Try.prog Try.f21 (stOf 33 g [(2, pb 0 0), (3, .bool b)] [vB x]) = some (.tuple #[.agg ⟨vc x⟩, .bool b]) := by kernel_rfl
def toldV (x : ViewV) : Bool := told x.n x.t x.o x.r x.d x.i
section
variable (o : Blk) (n c i : Nat) (x y : ViewV) (b : Bool) (g : Nat → Value)
theorem r21a : (execE Try.prog c21 [] [] [] 10 c21a ⟨tmsOf [rowS 0 n c] 0 .leaf, heapOf [o, .dead] hp0, []⟩).map (fun z => (look2 1 [0, 2] [0, 2] (z.1, z.2.1), z.2.2)) =
    some ((.normal, [o, vB (zeroV 0)], [(0, rowS 0 n c), (2, pb 1 0)], true), [], [], []) := by kernel_rfl
theorem r21b : (execE Try.prog c21 [] [] [] 10 c21b (stOf 33 g [(0, rowS 0 n c), (2, pb 1 0)] [o, vB (zeroV 0)])).map (fun z => (look2 1 [0, 1, 3] [0, 2, 4] (z.1, z.2.1), z.2.2)) =
    some ((.normal, [o, vB (zeroV 0), vB (zeroV 0)], [(0, rowS 0 n c), (2, pb 1 0), (4, pb 2 0)], true), [], [], []) := by kernel_rfl
theorem r21c : (execE Try.prog c21 [] [] [] 10 c21c (stOf 33 g [(0, rowS 0 n c), (2, pb 1 0), (4, pb 2 0)] [o, vB (zeroV 0), vB (zeroV 0)])).map (fun z => (look2 1 [0, 1, 2] [0, 2, 4, 5] (z.1, z.2.1), z.2.2)) =
    some ((.normal, [o, vB (zeroV 0), vB (zeroV 0)], [(0, rowS 0 n c), (2, pb 1 0), (4, pb 2 0), (5, .bool false)], true), [], [], []) := by kernel_rfl
abbrev L21 (y : ViewV) (b : Bool) (i : Nat) (g : Nat → Value) : St := stOf 33 g [(2, pb 1 0), (4, pb 2 0), (5, .bool b), (9, rowS 0 n c), (10, iN n), (11, iN i)] [o, vB (zeroV 0), vB y]
theorem r21d : (execE Try.prog c21 [] [] [] 10 c21d (stOf 33 g [(0, rowS 0 n c), (2, pb 1 0), (4, pb 2 0), (5, .bool false)] [o, vB (zeroV 0), vB (zeroV 0)])).map (fun z => (look2 1 [0, 1, 2] [2, 4, 5, 9, 10, 11] (z.1, z.2.1), z.2.2)) =
    some ((.normal, [o, vB (zeroV 0), vB (zeroV 0)], [(2, pb 1 0), (4, pb 2 0), (5, .bool false), (9, rowS 0 n c), (10, iN n), (11, iN 0)], true), [], [], []) := by kernel_rfl
theorem r21x : (execE Try.prog c21 [(12, .bool false)] [] [] 20 c21e (L21 o n c y b i g)).map (fun z => (look2 0 [1, 2] [2, 4, 5] (z.1, z.2.1), z.2.2)) =
    some ((.exit 0, [vB (zeroV 0), vB y], [(2, pb 0 0), (4, pb 1 0), (5, .bool b)], true), [ltO i n false], [], []) := by kernel_rfl
noncomputable def o21 (l : List Obl) : List Obl := ltO i n true :: ixO 0 n c i :: ldO (heapOf ([o, vB (zeroV 0), vB y] ++ [.dead]) hp0).get 34 0 (i * 7) (.agg ⟨vc x⟩) :: l
def k21 : List (Tmp × Value) := [(12, .bool true), (13, pb 0 (i * 7)), (14, .agg ⟨vc x⟩), (30, iN (i + 1))]
noncomputable def toO (x : ViewV) (b : Bool) : Obl := (some (.bool (toldV x)), .bool b)
noncomputable def leV (x y : ViewV) (b : Bool) : Obl := (some (.bool (ltV x y)), .bool b)
theorem r21f : (execE Try.prog c21 (k21 i x ++ [(17, .bool false)]) [] [] 20 c21e (L21 o n c y b i g)).map (fun z => (look2 1 [0, 1, 2] [2, 4, 5, 9, 10, 11] (z.1, z.2.1), z.2.2)) =
    some ((.normal, [o, vB (zeroV 0), vB y], [(2, pb 1 0), (4, pb 2 0), (5, .bool b), (9, rowS 0 n c), (10, iN n), (11, iN (i + 1))], true), o21 o n c i x y [toO x false, nxt29 i], [], []) := by kernel_rfl
theorem r21g : (execE Try.prog c21 (k21 i x ++ [(17, .bool true)]) [] [] 20 c21e (L21 o n c y false i g)).map (fun z => (look2 1 [0, 1, 2] [2, 4, 5, 9, 10, 11] (z.1, z.2.1), z.2.2)) =
    some ((.normal, [o, vB (zeroV 0), vB x], [(2, pb 1 0), (4, pb 2 0), (5, .bool true), (9, rowS 0 n c), (10, iN n), (11, iN (i + 1))], true), o21 o n c i x y [toO x true, nxt29 i], [], []) := by kernel_rfl
theorem r21h : (execE Try.prog c21 (k21 i x ++ [(17, .bool true), (26, .bool true)]) [] [] 20 c21e (L21 o n c y true i g)).map (fun z => (look2 1 [0, 1, 2] [2, 4, 5, 9, 10, 11] (z.1, z.2.1), z.2.2)) =
    some ((.normal, [o, vB (zeroV 0), vB x], [(2, pb 1 0), (4, pb 2 0), (5, .bool true), (9, rowS 0 n c), (10, iN n), (11, iN (i + 1))], true), o21 o n c i x y [toO x true, leV x y true, nxt29 i], [], []) := by kernel_rfl
theorem r21i : (execE Try.prog c21 (k21 i x ++ [(17, .bool true), (26, .bool false)]) [] [] 20 c21e (L21 o n c y true i g)).map (fun z => (look2 1 [0, 1, 2] [2, 4, 5, 9, 10, 11] (z.1, z.2.1), z.2.2)) =
    some ((.normal, [o, vB (zeroV 0), vB y], [(2, pb 1 0), (4, pb 2 0), (5, .bool true), (9, rowS 0 n c), (10, iN n), (11, iN (i + 1))], true), o21 o n c i x y [toO x true, leV x y false, nxt29 i], [], []) := by kernel_rfl
theorem r21j : (execE Try.prog c21 [] [] [] 20 c21f (stOf 33 g [(2, pb 0 0), (4, pb 1 0), (5, .bool b)] [vB (zeroV 0), vB y])).map (fun z => (look2 0 [0] [2, 3] (z.1, z.2.1), z.2.2)) =
    some ((.ret, [vB y], [(2, pb 0 0), (3, .bool b)], true), [], [], []) := by kernel_rfl
theorem r21n : (execQ Try.prog c21 [] 40 code21 ⟨tmsOf [nilS] 0 .leaf, heapOf [.dead] hp0, []⟩).map (fun z => (look2 0 [1] [2, 3] (z.1, z.2.1), z.2.2)) = some ((.ret, [vB (zeroV 0)], [(2, pb 0 0), (3, .bool false)], true), []) := by kernel_rfl
end
def lowS (p : ViewV × Bool) (x : ViewV) : ViewV × Bool := bif toldV x && (!p.2 || ltV x p.1) then (x, true) else p
/-- The lowest one. -/
def lowV (vs : List ViewV) : ViewV × Bool := vs.foldl lowS (zeroV 0, false)
def EndsL (vs : List ViewV) (e : Exit) (st : St) : Prop := e = .ret ∧ ∃ g, st = stOf 33 g [(2, pb 0 0), (3, .bool (lowV vs).2)] [vB (lowV vs).1]
theorem low_fr (o : Blk) (ho : inertB o = true) (vs : List ViewV) (hn : vs.length < 1000000) (hrow : vs = [] ∨ ∃ ty ro, o = .cells ty (vrow vs) ro) (c : Nat) (W : Base) :
    FRwp Try.prog 33 W code21 ⟨tmsOf [rowS 0 vs.length c] 0 .leaf, heapOf [o, .dead] hp0, []⟩ (EndsL vs) := by
  refine FRwp.seq (Q1 := fun x st => x = .normal ∧ ∃ g, st = stOf 33 g [(0, rowS 0 vs.length c), (2, pb 1 0)] [o, vB (zeroV 0)]) (FRwp.pieceY c21_ok follows 1 _ _ _ _ (r21a o vs.length c) Met.nil MetH.nil MetE.nil s21a rfl rfl (fix11 ho _) fun g => ⟨rfl, g, rfl⟩) ?_ (fun x st hne hq => absurd hq.1 hne)
  rintro st ⟨-, g, rfl⟩
  refine FRwp.seq (Q1 := fun x st => x = .normal ∧ ∃ g, st = stOf 33 g [(0, rowS 0 vs.length c), (2, pb 1 0), (4, pb 2 0)] [o, vB (zeroV 0), vB (zeroV 0)]) (FRwp.pieceY c21_ok follows 1 _ _ _ _ (r21b o vs.length c g) Met.nil MetH.nil MetE.nil s21b rfl rfl (fix11 ho _) fun g => ⟨rfl, g, rfl⟩) ?_ (fun x st hne hq => absurd hq.1 hne)
  rintro st ⟨-, g, rfl⟩
  refine FRwp.seq (Q1 := fun x st => x = .normal ∧ ∃ g, st = stOf 33 g [(0, rowS 0 vs.length c), (2, pb 1 0), (4, pb 2 0), (5, .bool false)] [o, vB (zeroV 0), vB (zeroV 0)]) (FRwp.pieceY c21_ok follows 1 _ _ _ _ (r21c o vs.length c g) Met.nil MetH.nil MetE.nil s21c rfl rfl (fix11 ho _) fun g => ⟨rfl, g, rfl⟩) ?_ (fun x st hne hq => absurd hq.1 hne)
  rintro st ⟨-, g, rfl⟩
  refine FRwp.seq (Q1 := fun x st => x = .normal ∧ ∃ g, st = stOf 33 g [(2, pb 0 0), (4, pb 1 0), (5, .bool (lowV vs).2)] [vB (zeroV 0), vB (lowV vs).1]) ?_ ?_ (fun x st hne hq => absurd hq.1 hne)
  · refine FRwp.seq (Q1 := fun x st => x = .normal ∧ ∃ g, st = L21 o vs.length c (zeroV 0) false 0 g) (FRwp.pieceY c21_ok follows 1 _ _ _ _ (r21d o vs.length c g) Met.nil MetH.nil MetE.nil s21d rfl rfl (fix11 ho _) fun g => ⟨rfl, g, rfl⟩) ?_ (fun x st hne hq => absurd hq.1 hne)
    rintro st ⟨-, g, rfl⟩
    refine FRwp.block ?_
    refine FRwp.loop (fun k st => ∃ i y b g, i ≤ vs.length ∧ k = vs.length - i ∧ (vs.take i).foldl lowS (zeroV 0, false) = (y, b) ∧ st = L21 o vs.length c y b i g) ?_ (k := vs.length) ⟨0, _, _, g, Nat.zero_le _, rfl, rfl, rfl⟩
    rintro k st ⟨i, y, b, g, hi, hk, hf, rfl⟩
    cases h12 : decide (i < vs.length) with
    | false =>
      have hii : i = vs.length := by have := of_decide_eq_false h12; omega
      subst hii
      rw [List.take_length] at hf
      refine FRwp.pieceY c21_ok follows 0 _ _ _ _ (r21x o vs.length c vs.length y b g) (Met.cons (ltO_ok h12) Met.nil) MetH.nil MetE.nil s21e rfl rfl (noFix _) fun g' => .inr ⟨by simp, ?_⟩
      show (if (0 : Nat) = 0 then _ else _)
      rw [if_pos rfl]
      refine ⟨rfl, g', ?_⟩
      unfold lowV
      rw [hf]
    | true =>
      have hlt := of_decide_eq_true h12
      obtain ⟨x, hx⟩ := some_at hlt
      have hr : ∃ ty ro, o = .cells ty (vrow vs) ro := by
        rcases hrow with h | h
        · rw [h] at hlt; simp at hlt
        · exact h
      have hst := fold_step (f := lowS) (a := (zeroV 0, false)) hx
      rw [hf] at hst
      have hat : RowAt (heapOf ([o, vB (zeroV 0), vB y] ++ [.dead]) hp0) 0 vs := rowAt0 hr
      have met : ∀ {l : List Obl}, Met l → Met (o21 o vs.length c i x y l) := fun hl => Met.cons (ltO_ok h12) (Met.cons (ix_ok hlt) (Met.cons (at_ok hat hx) hl))
      have hnx : Met [nxt29 i] := Met.cons (wrap_up (by omega)) Met.nil
      have tob : ∀ {b : Bool}, toldV x = b → (toO x b).1 = some (toO x b).2 := fun h => by show some (Value.bool (toldV x)) = _; rw [h]; rfl
      have leb : ∀ {b : Bool}, ltV x y = b → (leV x y b).1 = some (leV x y b).2 := fun h => by show some (Value.bool (ltV x y)) = _; rw [h]; rfl
      have go : ∀ {y' : ViewV} {b' : Bool} {g' : Nat → Value}, lowS (y, b) x = (y', b') → ∃ k', k' < k ∧ ∃ j z d g, j ≤ vs.length ∧ k' = vs.length - j ∧ (vs.take j).foldl lowS (zeroV 0, false) = (z, d) ∧ L21 o vs.length c y' b' (i + 1) g' = L21 o vs.length c z d j g :=
        fun {y' b' g'} h => ⟨vs.length - (i + 1), by omega, i + 1, y', b', g', by omega, rfl, by rw [hst, h], rfl⟩
      cases h17 : toldV x with
      | false =>
        refine FRwp.pieceY c21_ok follows 1 _ _ _ _ (r21f o vs.length c i x y b g) (met (Met.cons (tob h17) hnx)) MetH.nil MetE.nil s21e rfl rfl (fix11 ho _) fun g' => .inl ⟨rfl, go ?_⟩
        unfold lowS; rw [h17]; rfl
      | true =>
        cases b with
        | false =>
          refine FRwp.pieceY c21_ok follows 1 _ _ _ _ (r21g o vs.length c i x y g) (met (Met.cons (tob h17) hnx)) MetH.nil MetE.nil s21e rfl rfl (fix11 ho _) fun g' => .inl ⟨rfl, go ?_⟩
          unfold lowS; rw [h17]; rfl
        | true =>
          cases h26 : ltV x y with
          | true =>
            refine FRwp.pieceY c21_ok follows 1 _ _ _ _ (r21h o vs.length c i x y g) (met (Met.cons (tob h17) (Met.cons (leb h26) hnx))) MetH.nil MetE.nil s21e rfl rfl (fix11 ho _) fun g' => .inl ⟨rfl, go ?_⟩
            unfold lowS; simp only [h17, h26]; rfl
          | false =>
            refine FRwp.pieceY c21_ok follows 1 _ _ _ _ (r21i o vs.length c i x y g) (met (Met.cons (tob h17) (Met.cons (leb h26) hnx))) MetH.nil MetE.nil s21e rfl rfl (fix11 ho _) fun g' => .inl ⟨rfl, go ?_⟩
            unfold lowS; simp only [h17, h26]; rfl
  · rintro st ⟨-, g, rfl⟩
    exact FRwp.pieceY c21_ok follows 0 _ _ _ _ (r21j (lowV vs).1 (lowV vs).2 g) Met.nil MetH.nil MetE.nil s21f rfl rfl (noFix _) fun g => ⟨rfl, g, rfl⟩
theorem low_nil (W : Base) : FRwp Try.prog 33 W code21 ⟨tmsOf [nilS] 0 .leaf, heapOf [.dead] hp0, []⟩ (EndsL []) :=
  FRwp.piece c21_ok follows 0 _ _ _ _ r21n Met.nil s21 rfl rfl rfl (noFix _) fun g => ⟨rfl, g, rfl⟩
def lowA (vs : List ViewV) : Value := .tuple #[.agg ⟨vc (lowV vs).1⟩, .bool (lowV vs).2]
open Classical in
noncomputable def g21 (vs : List ViewV) : HeapFn := fun args hp => match args with
  | [s] => if TN vs s hp then some (lowA vs, heapOf ([] ++ [.dead]) hp) else none
  | _ => none
theorem hk21 (vs : List ViewV) (hn : vs.length < 1000000) : CallGoal Try.prog 21 (g21 vs) := scan_goal follows Try.func21 body21 (by kernel_rfl) fun args hp v hp' h hk => by
  unfold g21 at h
  rw [ntmps21]
  split at h
  case h_2 => cases h
  rename_i s
  split at h
  case isFalse => cases h
  rename_i hT
  cases h
  have fin : ∀ {e : Exit} {st : St}, EndsL vs e st → (e = .normal ∨ e = .ret) ∧ st.df = [] ∧ ∃ v0, retVal Try.prog Try.f21 st = some v0 ∧ ok3 v0 = true ∧
      (∀ b ∈ ([] : List Nat), ∃ o, st.hp.get b = some o ∧ okBlk o = true ∧ rwB o = true) ∧ lowA vs = sh3 [] hp.sz v0 ∧ [] = outOf [] hp.sz st.hp := by
    rintro e st ⟨rfl, g, rfl⟩
    exact ⟨.inr rfl, rfl, _, q21 _ _ g, rfl, (fun b hb => by cases hb), by simp [sh3, sh2, sh1, lowA, vc], rfl⟩
  rcases hT with ⟨rfl, rfl⟩ | ⟨b, c, o, rfl, hb, hi, hr⟩
  · refine ⟨[], [], [], rfl, rfl, rfl, rfl, (fun b hb => by cases hb), rfl, (by simp), fun W => ?_⟩
    have e1 : [nilS].map (sh3 [] 0) = [nilS] := by simp [sh3, sh2, sh1, nilS]
    rw [e1]
    exact FRwp.mono (low_nil W) fun e st q => fin q
  · refine ⟨[b], [], [], rfl, rfl, rfl, rfl, fun b' hb' => ?_, rfl, (by simp), fun W => ?_⟩
    · have : b' = b := by simpa using hb'
      subst this
      exact ⟨o, hb, inert_start hi⟩
    · have e1 : [rowS b vs.length c].map (sh3 [b] 0) = [rowS 0 vs.length c] := by simp [sh3, sh2, sh1, rho, idxOf, rowS]
      rw [e1, start1 hb hi]
      exact FRwp.mono (low_fr (roBlk o) (ro_inert hi) vs hn (ro_row hr) c W) fun e st q => fin q
noncomputable def G21 : HeapFn := atRow (fun _ => True) g21
theorem hkG21 : CallGoal Try.prog 21 G21 := atRow_goal fun vs hn _ => hk21 vs hn
open Classical in
theorem G21_of {vs : List ViewV} {s : Value} {hp : Hp} (h : TN vs s hp) (hn : vs.length < 1000000) : G21 [s] hp = some (lowA vs, heapOf [.dead] hp) := by
  unfold G21
  rw [atRow_of h hn trivial]
  show (if TN vs s hp then _ else _) = _
  rw [if_pos h]; rfl
end Go.Proofs.Ytiogdklmhpllfaa.LtA
namespace Go.Proofs.Ytiogdklmhpllfaa.LtA
open Go Go.Proofs Go.Proofs.Ytiogdklmhpllfaa.AI Go.RowKit Go.Proofs.Ytiogdklmhpllfaa.Sort

/-- A row of ints, or nil. -/
def vI (f : Bool) (b k : Nat) : Value := bif f then newI b k else nilS
def kk (f : Bool) (k : Nat) : Nat := bif f then k else 0
noncomputable def ixI (b k i : Nat) : Obl := (fstV ((aIndexAddr Try.prog 31 (newI b k) (iN i)).map fun v => (v, none)), pb b i)
noncomputable def chO (own : ViewV) (b : Bool) : Obl := (some (.bool (chk own.n own.t own.o own.r own.d own.i != 0)), .bool b)
section
variable (o A B : Blk) (own x y u w : ViewV) (n c q i ka kb : Nat) (z x1 x2 : Int) (b lb fa fb : Bool) (g : Nat → Value)
def h7 (o : Blk) (own : ViewV) : Hp := heapOf ([o, hB own] ++ [.dead]) hp0
noncomputable def hu (r : Bool) : Obl := (some (.bool (decide (Int.ofNat n > 100))), .bool r)
/-! Behind Lowest. -/
end
/-! A nil row. -/
section
variable (own : ViewV)
end
end Go.Proofs.Ytiogdklmhpllfaa.LtA
namespace Go.Proofs.Ytiogdklmhpllfaa.LtA
open Go Go.Proofs Go.Proofs.Ytiogdklmhpllfaa.AI Go.RowKit Go.Proofs.Ytiogdklmhpllfaa.Sort

theorem kn_iff {x : ViewV} : Kn x ↔ x.n = false ∧ okV x = true := by
  unfold Kn known okV
  cases x.n <;> simp
theorem right_facts {vs : List ViewV} (h : rightB vs = true) {x : ViewV} (hx : x ∈ vs) : x.i = x.id ∧ okV x = true := by
  have h1 := (right_iff.1 h).1 x hx
  rw [oneV_parts, Bool.and_eq_true, Bool.and_eq_true, Bool.and_eq_true] at h1
  exact ⟨by simpa using h1.2.2.1, h1.2.2.2⟩
theorem lt_total {u w : ViewV} (hu : Kn u) (hw : Kn w) (h : u.i ≠ w.i) : ltV u w = true ∨ ltV w u = true := by
  have : Lex u w ∨ Lex w u := by unfold Lex; omega
  rcases this with h | h
  · exact .inl ((ltV_lex hu hw).2 h)
  · exact .inr ((ltV_lex hw hu).2 h)
theorem lt_kn {u w : ViewV} (h : ltV u w = true) : Kn u ∧ Kn w := by
  unfold ltV less at h
  obtain ⟨h1, h2⟩ := Bool.and_eq_true_iff.1 h
  exact ⟨h1, (Bool.and_eq_true_iff.1 h2).1⟩
/-! ### No two with one id -/
/-! ### What the ids are -/
theorem ids_get {p : ViewV → Bool} {vs : List ViewV} {i : Nat} {z : Int} (h : (idsP p vs)[i]? = some z) : ∃ u, (ssort ltV (vs.filter p))[i]? = some u ∧ u.id = z ∧ u ∈ vs ∧ p u = true := by
  unfold idsP at h
  rw [List.getElem?_map] at h
  obtain ⟨u, h1, h2⟩ := Option.map_eq_some_iff.1 h
  have hm := mem_ssort.1 (List.mem_of_getElem? h1)
  obtain ⟨m1, m2⟩ := List.mem_filter.1 hm
  exact ⟨u, h1, h2, m1, m2⟩
/-! ### The lowest one -/
def LowOk (P : List ViewV) (p : ViewV × Bool) : Prop := (p.2 = true → p.1 ∈ P ∧ Kn p.1 ∧ ∀ x ∈ P, Kn x → ltV x p.1 = false) ∧ (p.2 = false → ∀ x ∈ P, ¬ Kn x)
theorem toldV_kn {x : ViewV} : toldV x = true ↔ Kn x := Iff.rfl
theorem low_step {P : List ViewV} {p : ViewV × Bool} (h : LowOk P p) (x : ViewV) : LowOk (P ++ [x]) (lowS p x) := by
  obtain ⟨y, b⟩ := p
  obtain ⟨h1, h2⟩ := h
  unfold lowS
  have inl : ∀ {z}, z ∈ P → z ∈ P ++ [x] := fun h => by simp [h]
  have mem : ∀ {z}, z ∈ P ++ [x] → z ∈ P ∨ z = x := fun h => by simpa using h
  cases ht : toldV x with
  | false =>
    have nk : ¬ Kn x := fun h => by rw [toldV_kn.2 h] at ht; cases ht
    refine ⟨fun hb => ?_, fun hb z hz => ?_⟩
    · obtain ⟨a1, a2, a3⟩ := h1 hb
      exact ⟨inl a1, a2, fun z hz hk => by
        rcases mem hz with hz | rfl
        · exact a3 z hz hk
        · exact absurd hk nk⟩
    · rcases mem hz with hz | rfl
      · exact h2 hb z hz
      · exact nk
  | true =>
    have hk := toldV_kn.1 ht
    cases b with
    | false =>
      show LowOk _ (x, true)
      exact ⟨fun _ => ⟨by simp, hk, fun z hz hkz => by
        rcases mem hz with hz | rfl
        · exact absurd hkz (h2 rfl z hz)
        · exact sw.irr hk⟩, fun h => by cases h⟩
    | true =>
      obtain ⟨a1, a2, a3⟩ := h1 rfl
      cases hl : ltV x y with
      | true =>
        show LowOk _ (x, true)
        exact ⟨fun _ => ⟨by simp, hk, fun z hz hkz => by
          rcases mem hz with hz | rfl
          · cases e : ltV z x with
            | false => rfl
            | true => rw [← a3 z hz hkz]; exact (sw.trans hkz hk a2 e hl).symm
          · exact sw.irr hk⟩, fun h => by cases h⟩
      | false =>
        show LowOk _ (y, true)
        exact ⟨fun _ => ⟨inl a1, a2, fun z hz hkz => by
          rcases mem hz with hz | rfl
          · exact a3 z hz hkz
          · exact hl⟩, fun h => by cases h⟩
theorem low_fold : ∀ {R P : List ViewV} {p : ViewV × Bool}, LowOk P p → LowOk (P ++ R) (R.foldl lowS p)
  | [], P, p, h => by rw [List.append_nil]; exact h
  | r :: R, P, p, h => by
    have := low_fold (R := R) (low_step h r)
    rw [List.append_assoc] at this
    exact this
theorem low_ok (vs : List ViewV) : LowOk vs (lowV vs) := by
  have := low_fold (R := vs) (P := []) (p := (zeroV 0, false)) ⟨(fun h => by cases h), (fun _ x hx => by cases hx)⟩
  exact this
end Go.Proofs.Ytiogdklmhpllfaa.LtA
namespace Go.Proofs.Ytiogdklmhpllfaa.LtA
open Go Go.Proofs Go.Proofs.Ytiogdklmhpllfaa.AI Go.RowKit Go.Proofs.Ytiogdklmhpllfaa.Sort

section
variable {hp : Hp}
end
theorem ixI_ok {b k i : Nat} (h : i < k) : (ixI b k i).1 = some (ixI b k i).2 := by
  have h1 : (0 : Int) ≤ Int.ofNat i ∧ Int.ofNat i < (k : Int) := ⟨Int.natCast_nonneg i, by simpa using h⟩
  show fstV ((aIndexAddr Try.prog 31 (newI b k) (iN i)).map fun v => (v, none)) = some (pb b i)
  simp only [aIndexAddr, newI, iN, underlying31, size3]
  rw [if_pos h1]
  simp [fstV, pb]
theorem ldI_ok {h : Hp} {b i : Nat} {ids : List Int} {z : Int} (hb : h.get b = some (iB ids)) (hz : ids[i]? = some z) : (ldO h.get 3 b i (.int .i64 z)).1 = some (ldO h.get 3 b i (.int .i64 z)).2 := by
  show aLoad Try.prog h.get 3 (pb b i) = some (.int .i64 z)
  unfold iB at hb
  unfold pb
  simp only [aLoad, hb, agg3, size3]
  rw [List.getElem?_map, hz]; rfl
theorem ownI_inert (ids : List Int) : inertB (ownI ids) = true := by
  cases ids with
  | nil => rfl
  | cons => exact iB_inert _
theorem bool_ok {a b : Bool} (h : a = b) : (some (Value.bool a)) = some (.bool b) := by rw [h]
section
variable {o A B : Blk} {own y : ViewV} {c q : Nat} {lb fa fb : Bool} {vs : List ViewV} {ia ib : List Int}
end
end Go.Proofs.Ytiogdklmhpllfaa.LtA
