/- ViewsSplit, of the given program: for every views and height the law returns true, and the arguments read as they did. No condition. -/
import Derived.Test.YtiogdklmhpllfaaVgE
import Derived.Test.YtiogdklmhpllfaaVgD
import Derived.Test.YtiogdklmhpllfaaRows
set_option linter.unusedVariables false
set_option linter.unusedSimpArgs false
set_option maxRecDepth 100000
namespace Go.Proofs.Ytiogdklmhpllfaa.LtA
open Go Go.Proofs Go.Proofs.Ytiogdklmhpllfaa.AI Go.RowKit Go.Proofs.Ytiogdklmhpllfaa.Sort

/-! ### Rows of ints -/
def icell (x : Int) : Value := .int .i64 x
def iB (ids : List Int) : Blk := .cells 3 (ids.map icell) false
def newI (b k : Nat) : Value := .slice (some ⟨b, 0, none⟩) k 4
theorem iB_inert (ids : List Int) : inertB (iB ids) = true := by
  show List.all _ inert = true
  rw [List.all_map]
  exact List.all_eq_true.2 fun x _ => rfl
theorem underlying31 : Try.prog.underlying 31 = some (.slice 3) := by kernel_rfl
theorem info3 : ∃ i, Try.prog.info? 3 = some i ∧ i.size = 1 ∧ i.bytes = 8 := by
  have h : (Try.prog.info? 3).map (fun i => (i.size, i.bytes)) = some (1, 8) := by kernel_rfl
  obtain ⟨i, h1, h2⟩ := Option.map_eq_some_iff.1 h
  simp only [Prod.mk.injEq] at h2
  exact ⟨i, h1, h2.1, h2.2⟩
theorem zero3 : ∃ z, tzero Try.prog 3 = some z ∧ z.length = 1 := by
  have h : (tzero Try.prog 3).map (fun z => z.length) = some 1 := by kernel_rfl
  obtain ⟨z, h1, h2⟩ := Option.map_eq_some_iff.1 h
  exact ⟨z, h1, h2⟩
theorem app_int {get : Nat → Option Blk} {sz b b2 k : Nat} {ids : List Int} {x : Int} (hb : get b = some (iB ids)) (hb2 : get b2 = some (.cells 3 [icell x] false)) (hk : k = ids.length) (hl : k < 2000000) :
    aAppend Try.prog get sz [31, 31] [newI b k, newI b2 1] = some (newI sz (k + 1), [.put b .dead, .push (iB (ids ++ [x]))]) := by
  subst hk
  obtain ⟨i, hi, h1, h8⟩ := info3
  obtain ⟨z, hz, hzl⟩ := zero3
  unfold iB at hb
  have hsrc : aSrc Try.prog get 1 z (.slice 3) (newI b2 1) = some ([icell x], 1) := by
    unfold aSrc newI
    simp only [srcLen, srcCells, hb2]
    rw [if_neg (by omega), if_neg (by omega), getR_all (n := 1 * 1) rfl]
    rfl
  have hg : getR (ids.map icell) 0 (ids.length * 1) = some (ids.map icell) := getR_all (by simp)
  unfold aAppend
  simp only [underlying31, hi, hz, h1, h8, hzl]
  rw [if_neg (by decide)]
  simp only [hsrc]
  rw [if_neg (by simp [isOne, icell])]
  simp only [newI]
  rw [if_neg (by omega), if_neg (by omega)]
  simp only [hb, hg]
  rw [if_neg (by omega), if_pos (by decide), if_neg (by simp)]
  unfold iB
  rw [List.map_append]
  rfl
def rowIv (ids : List Int) (b : Nat) : Value := match ids with
  | [] => nilS
  | _ :: _ => newI b ids.length
def rowIO (ids : List Int) : List Blk := match ids with
  | [] => []
  | _ :: _ => [iB ids]

/-! ### Its runs -/
noncomputable def E58 : Ext := extG (extH Try.prog [(17, g17)]) [(78, G78)]
theorem E58_ok : ExtOk Try.prog E58 := extG_ok (extH_ok (.cons hk17 .nil)) (.cons hkG78 .nil)
noncomputable def c58 : CallF := aCall Try.prog E58 5
theorem c58_ok : CallOk Try.prog c58 := aCall_sound E58_ok follows 5
theorem c58_78 (args : List Value) (hp : Hp) : c58 78 args hp = G78 args hp := by
  show aCall Try.prog E58 5 78 _ _ = _
  rw [aCall]; rfl
noncomputable def c58n : CallF := aCall Try.prog (extH Try.prog []) 60
theorem c58n_ok : CallOk Try.prog c58n := aCall_sound (extH_ok .nil) follows 60
noncomputable def fb58 : Code := (Try.f58.body).getD .skip
noncomputable def c58a : Code := sL fb58
noncomputable def c58b : Code := sL (sR fb58)
noncomputable def c58c : Code := sL (sL (sR (sR fb58)))
noncomputable def c58d : Code := unL (unB (sR (sL (sR (sR fb58)))))
noncomputable def c58e : Code := sL (sR (sR (sR fb58)))
noncomputable def c58f : Code := sL (sR (sR (sR (sR fb58))))
noncomputable def c58g : Code := sL (sL (sR (sR (sR (sR (sR fb58))))))
noncomputable def c58h : Code := unL (unB (sR (sL (sR (sR (sR (sR (sR fb58))))))))
noncomputable def c58i : Code := sR (sR (sR (sR (sR (sR fb58)))))
noncomputable abbrev rest58 : Code := .seq c58e (.seq c58f (.seq (.seq c58g (.block 2 (.loop c58h))) c58i))
noncomputable abbrev code58 : Code := .seq c58a (.seq c58b (.seq (.seq c58c (.block 0 (.loop c58d))) rest58))
theorem body58 : Try.f58.body = some code58 := by kernel_rfl
theorem ntmps58 : Try.f58.ntmps = 41 := by kernel_rfl
theorem q58 (v : Value) (O : List Blk) (g : Nat → Value) : retVal Try.prog Try.f58 (stOf 41 g [(4, v)] O) = some v := by kernel_rfl
theorem s58a : codeSafe Try.prog 41 c58a = true := by kernel_rfl
theorem s58b : codeSafe Try.prog 41 c58b = true := by kernel_rfl
theorem s58c : codeSafe Try.prog 41 c58c = true := by kernel_rfl
theorem s58d : codeSafe Try.prog 41 c58d = true := by kernel_rfl
theorem s58e : codeSafe Try.prog 41 c58e = true := by kernel_rfl
theorem s58f : codeSafe Try.prog 41 c58f = true := by kernel_rfl
theorem s58g : codeSafe Try.prog 41 c58g = true := by kernel_rfl
theorem s58h : codeSafe Try.prog 41 c58h = true := by kernel_rfl
theorem s58i : codeSafe Try.prog 41 c58i = true := by kernel_rfl
theorem s58r : codeSafe Try.prog 41 rest58 = true := by kernel_rfl
/-- A function value that holds on to one variable. -/
def Cl (f : FuncId) (b : Nat) : Value := .func (.func f) #[] #[pb b 0]
section
variable (o ob : Blk) (f : FuncId) (n c i k : Nat) (ws us : List ViewV) (ids : List Int) (x : ViewV) (b : Bool) (g : Nat → Value)
theorem r58a : (execE Try.prog c58 [] [] [] 10 c58a ⟨tmsOf [rowS 0 n c, Cl f 1] 0 .leaf, heapOf [o, ob, .dead] hp0, []⟩).map (fun z => (look2 2 [0, 1] [0, 1] (z.1, z.2.1), z.2.2)) =
    some ((.normal, [o, ob], [(0, rowS 0 n c), (1, Cl f 1)], true), [], [], []) := by kernel_rfl
theorem r58b : (execE Try.prog c58 [] [] [] 10 c58b (stOf 41 g [(0, rowS 0 n c), (1, Cl f 1)] [o, ob])).map (fun z => (look2 2 [0, 1] [0, 1, 5] (z.1, z.2.1), z.2.2)) =
    some ((.normal, [o, ob], [(0, rowS 0 n c), (1, Cl f 1), (5, nilS)], true), [], [], []) := by kernel_rfl
abbrev N58 (i : Nat) (g : Nat → Value) : St := stOf 41 g [(1, Cl f 1), (5, nilS), (11, rowS 0 n c), (12, iN n), (13, iN i)] [o, ob]
abbrev R58 (ws : List ViewV) (k i : Nat) (g : Nat → Value) : St := stOf 41 g [(1, Cl f 2), (5, newS 1 k), (11, rowS 0 n c), (12, iN n), (13, iN i)] [o, rowB ws, ob]
theorem r58c : (execE Try.prog c58 [] [] [] 10 c58c (stOf 41 g [(0, rowS 0 n c), (1, Cl f 1), (5, nilS)] [o, ob])).map (fun z => (look2 2 [0, 1] [1, 5, 11, 12, 13] (z.1, z.2.1), z.2.2)) =
    some ((.normal, [o, ob], [(1, Cl f 1), (5, nilS), (11, rowS 0 n c), (12, iN n), (13, iN 0)], true), [], [], []) := by kernel_rfl
/-- A nil row. -/
theorem n58 : (execQ Try.prog c58n [] 60 code58 ⟨tmsOf [nilS, Cl f 0] 0 .leaf, heapOf [ob, .dead] hp0, []⟩).map (fun z => (look2 0 [] [4] (z.1, z.2.1), z.2.2)) = some ((.ret, [], [(4, nilS)], true), []) := by kernel_rfl
/-- Nothing is asked for. -/
theorem n58r : (execQ Try.prog c58n [] 60 rest58 (stOf 41 g [(5, nilS)] [])).map (fun z => (look2 0 [] [4] (z.1, z.2.1), z.2.2)) = some ((.ret, [], [(4, nilS)], true), []) := by kernel_rfl
theorem n58x : (execE Try.prog c58 [(14, .bool false)] [] [] 20 c58d (N58 o ob f n c i g)).map (fun z => (look2 0 [] [5] (z.1, z.2.1), z.2.2)) = some ((.exit 0, [], [(5, nilS)], true), [ltO i n false], [], []) := by kernel_rfl
theorem r58x : (execE Try.prog c58 [(14, .bool false)] [] [] 20 c58d (R58 o ob f n c ws k i g)).map (fun z => (look2 1 [1] [5] (z.1, z.2.1), z.2.2)) = some ((.exit 0, [rowB ws], [(5, newS 0 k)], true), [ltO i n false], [], []) := by kernel_rfl
def hN58 (o ob : Blk) : Hp := heapOf ([o, ob] ++ [.dead]) hp0
def hR58 (o ob : Blk) (ws : List ViewV) : Hp := heapOf ([o, rowB ws, ob] ++ [.dead]) hp0
theorem n58f : (execE Try.prog c58 [(14, .bool true), (15, pb 0 (i * 7)), (16, .agg ⟨vc x⟩), (25, iN (i + 1))] [] [(20, .bool false, [.push (hB x)])] 20 c58d (N58 o ob f n c i g)).map (fun z => (look2 2 [0, 1] [1, 5, 11, 12, 13] (z.1, z.2.1), z.2.2)) =
    some ((.normal, [o, ob], [(1, Cl f 1), (5, nilS), (11, rowS 0 n c), (12, iN n), (13, iN (i + 1))], true), [ltO i n true, ixO 0 n c i, ldO (hN58 o ob).get 34 0 (i * 7) (.agg ⟨vc x⟩), nxt29 i],
      [(c58 f [hcA x, pb 1 0] ((hN58 o ob).push (vB x)), (.bool false, heapOf [hB x] ((hN58 o ob).push (vB x))))], []) := by kernel_rfl
theorem n58t : (execE Try.prog c58 [(14, .bool true), (15, pb 0 (i * 7)), (16, .agg ⟨vc x⟩), (25, iN (i + 1))] [] [(20, .bool true, [.push (hB x)])] 20 c58d (N58 o ob f n c i g)).map (fun z => (look2 3 [0, 6, 1] [1, 5, 11, 12, 13] (z.1, z.2.1), z.2.2)) =
    some ((.normal, [o, rowB [x], ob], [(1, Cl f 2), (5, newS 1 1), (11, rowS 0 n c), (12, iN n), (13, iN (i + 1))], true), [ltO i n true, ixO 0 n c i, ldO (hN58 o ob).get 34 0 (i * 7) (.agg ⟨vc x⟩), nxt29 i],
      [(c58 f [hcA x, pb 1 0] ((hN58 o ob).push (vB x)), (.bool true, heapOf [hB x] ((hN58 o ob).push (vB x))))], []) := by kernel_rfl
theorem r58f : (execE Try.prog c58 [(14, .bool true), (15, pb 0 (i * 7)), (16, .agg ⟨vc x⟩), (25, iN (i + 1))] [] [(20, .bool false, [.push (hB x)])] 20 c58d (R58 o ob f n c ws k i g)).map (fun z => (look2 3 [0, 1, 2] [1, 5, 11, 12, 13] (z.1, z.2.1), z.2.2)) =
    some ((.normal, [o, rowB ws, ob], [(1, Cl f 2), (5, newS 1 k), (11, rowS 0 n c), (12, iN n), (13, iN (i + 1))], true), [ltO i n true, ixO 0 n c i, ldO (hR58 o ob ws).get 34 0 (i * 7) (.agg ⟨vc x⟩), nxt29 i],
      [(c58 f [hcA x, pb 2 0] ((hR58 o ob ws).push (vB x)), (.bool false, heapOf [hB x] ((hR58 o ob ws).push (vB x))))], []) := by kernel_rfl
theorem r58t : (execE Try.prog c58 [(14, .bool true), (15, pb 0 (i * 7)), (16, .agg ⟨vc x⟩), (25, iN (i + 1))] [] [(20, .bool true, [.push (hB x)]), (24, newS 7 (k + 1), [.put 1 .dead, .push (rowB us)])] 20 c58d (R58 o ob f n c ws k i g)).map (fun z => (look2 3 [0, 7, 2] [1, 5, 11, 12, 13] (z.1, z.2.1), z.2.2)) =
    some ((.normal, [o, rowB us, ob], [(1, Cl f 2), (5, newS 1 (k + 1)), (11, rowS 0 n c), (12, iN n), (13, iN (i + 1))], true), [ltO i n true, ixO 0 n c i, ldO (hR58 o ob ws).get 34 0 (i * 7) (.agg ⟨vc x⟩), nxt29 i],
      [(c58 f [hcA x, pb 2 0] ((hR58 o ob ws).push (vB x)), (.bool true, heapOf [hB x] ((hR58 o ob ws).push (vB x))))], [apR (((((hR58 o ob ws).push (vB x)).push (hB x))).push (vB x)) 7 1 k 6 us]) := by kernel_rfl
theorem r58e : (execE Try.prog c58 [] [] [(27, vU, [.put 0 (rowB us)])] 20 c58e (stOf 41 g [(5, newS 0 k)] [rowB ws])).map (fun z => (look2 1 [0] [5] (z.1, z.2.1), z.2.2)) =
    some ((.normal, [rowB us], [(5, newS 0 k)], true), [], [(c58 78 [newS 0 k, Fc] (hW ws), (vU, (hW ws).put 0 (rowB us)))], []) := by kernel_rfl
theorem r58g0 : (execE Try.prog c58 [] [] [] 20 c58f (stOf 41 g [(5, newS 0 k)] [rowB ws])).map (fun z => (look2 1 [0] [5, 8] (z.1, z.2.1), z.2.2)) = some ((.normal, [rowB ws], [(5, newS 0 k), (8, nilS)], true), [], [], []) := by kernel_rfl
abbrev NB58 (ws : List ViewV) (n i : Nat) (g : Nat → Value) : St := stOf 41 g [(8, nilS), (28, newS 0 n), (29, iN n), (30, iN i)] [rowB ws]
abbrev RB58 (ws : List ViewV) (ids : List Int) (n k i : Nat) (g : Nat → Value) : St := stOf 41 g [(8, newI 1 k), (28, newS 0 n), (29, iN n), (30, iN i)] [rowB ws, iB ids]
theorem r58g : (execE Try.prog c58 [] [] [] 20 c58g (stOf 41 g [(5, newS 0 k), (8, nilS)] [rowB ws])).map (fun z => (look2 1 [0] [8, 28, 29, 30] (z.1, z.2.1), z.2.2)) =
    some ((.normal, [rowB ws], [(8, nilS), (28, newS 0 k), (29, iN k), (30, iN 0)], true), [], [], []) := by kernel_rfl
theorem r58hx : (execE Try.prog c58 [(31, .bool false)] [] [] 20 c58h (RB58 ws ids n k i g)).map (fun z => (look2 1 [1] [8] (z.1, z.2.1), z.2.2)) = some ((.exit 2, [iB ids], [(8, newI 0 k)], true), [ltO i n false], [], []) := by kernel_rfl
theorem n58h : (execE Try.prog c58 [(31, .bool true), (32, pb 0 (i * 7)), (33, .agg ⟨vc x⟩), (39, iN (i + 1))] [] [] 20 c58h (NB58 ws n i g)).map (fun z => (look2 2 [0, 4] [8, 28, 29, 30] (z.1, z.2.1), z.2.2)) =
    some ((.normal, [rowB ws, iB [x.id]], [(8, newI 1 1), (28, newS 0 n), (29, iN n), (30, iN (i + 1))], true), [ltO i n true, ixO 0 n 22 i, ldO (hW ws).get 34 0 (i * 7) (.agg ⟨vc x⟩), nxt29 i], [], []) := by kernel_rfl
def hI58 (ws : List ViewV) (ids : List Int) : Hp := heapOf ([rowB ws, iB ids] ++ [.dead]) hp0
theorem r58h (jds : List Int) : (execE Try.prog c58 [(31, .bool true), (32, pb 0 (i * 7)), (33, .agg ⟨vc x⟩), (39, iN (i + 1))] [] [(38, newI 5 (k + 1), [.put 1 .dead, .push (iB jds)])] 20 c58h (RB58 ws ids n k i g)).map (fun z => (look2 2 [0, 5] [8, 28, 29, 30] (z.1, z.2.1), z.2.2)) =
    some ((.normal, [rowB ws, iB jds], [(8, newI 1 (k + 1)), (28, newS 0 n), (29, iN n), (30, iN (i + 1))], true), [ltO i n true, ixO 0 n 22 i, ldO (hI58 ws ids).get 34 0 (i * 7) (.agg ⟨vc x⟩), nxt29 i], [],
      [(aAppend Try.prog (((hI58 ws ids).push (vB x)).push (.cells 3 [icell x.id] false)).get 5 [31, 31] [newI 1 k, newI 4 1], (newI 5 (k + 1), [.put 1 .dead, .push (iB jds)]))]) := by kernel_rfl
theorem r58i : (execE Try.prog c58 [] [] [] 20 c58i (stOf 41 g [(8, newI 0 k)] [iB ids])).map (fun z => (look2 1 [0] [4] (z.1, z.2.1), z.2.2)) = some ((.ret, [iB ids], [(4, newI 0 k)], true), [], [], []) := by kernel_rfl
end
end Go.Proofs.Ytiogdklmhpllfaa.LtA
namespace Go.Proofs.Ytiogdklmhpllfaa.LtA
open Go Go.Proofs Go.Proofs.Ytiogdklmhpllfaa.AI Go.RowKit Go.Proofs.Ytiogdklmhpllfaa.Sort

/-- The ids of those that are asked for, the lowest one first. -/
def idsP (p : ViewV → Bool) (vs : List ViewV) : List Int := (ssort ltV (vs.filter p)).map fun x => x.id
def EndsQ (ids : List Int) (e : Exit) (st : St) : Prop := e = .ret ∧ ∃ g, st = stOf 41 g [(4, rowIv ids 0)] (rowIO ids)
theorem fix3 {o ob : Blk} (ho : inertB o = true) (hob : inertB ob = true) (us : List ViewV) : ∀ r : List Blk, ∀ i, i < 3 → ∀ o', (o :: rowB us :: ob :: r)[i]? = some o' → Fixed 0 o' := by
  intro r i hi o' h
  match i, hi with
  | 0, _ => simp at h; subst h; exact inert_fixed ho 0
  | 1, _ => simp at h; subst h; exact inert_fixed (row_block us) 0
  | 2, _ => simp at h; subst h; exact inert_fixed hob 0
theorem fixOO {o ob : Blk} (ho : inertB o = true) (hob : inertB ob = true) : ∀ r : List Blk, ∀ i, i < 2 → ∀ o', (o :: ob :: r)[i]? = some o' → Fixed 0 o' := by
  intro r i hi o' h
  match i, hi with
  | 0, _ => simp at h; subst h; exact inert_fixed ho 0
  | 1, _ => simp at h; subst h; exact inert_fixed hob 0
theorem fixI (ids : List Int) : ∀ r : List Blk, ∀ i, i < 1 → ∀ o', (iB ids :: r)[i]? = some o' → Fixed 0 o' := fix11 (iB_inert ids)
section
variable (o ob : Blk) (f : FuncId) (n c : Nat)
def S58 (us : List ViewV) (i : Nat) (g : Nat → Value) : St := match us with
  | [] => N58 o ob f n c i g
  | _ :: _ => R58 o ob f n c us us.length i g
def T58 (us : List ViewV) (g : Nat → Value) : St := match us with
  | [] => stOf 41 g [(5, nilS)] []
  | _ :: _ => stOf 41 g [(5, newS 0 us.length)] [rowB us]
end
theorem S58_ne {o ob : Blk} {f : FuncId} {n c : Nat} {us : List ViewV} {i : Nat} {g : Nat → Value} (h : us ≠ []) : S58 o ob f n c us i g = R58 o ob f n c us us.length i g := by
  cases us with
  | nil => exact absurd rfl h
  | cons => rfl
theorem filt_step {p : ViewV → Bool} {vs : List ViewV} {i : Nat} {x : ViewV} (h : vs[i]? = some x) : (vs.take (i + 1)).filter p = (vs.take i).filter p ++ (bif p x then [x] else []) := by
  rw [List.take_add_one, h, List.filter_append]
  cases e : p x <;> simp [e]
theorem filtloop_fr {o ob : Blk} {f : FuncId} {p : ViewV → Bool} (ho : inertB o = true) (hob : inertB ob = true)
    (hN : ∀ x, c58 f [hcA x, pb 1 0] ((hN58 o ob).push (vB x)) = some (.bool (p x), heapOf [hB x] ((hN58 o ob).push (vB x))))
    (hR : ∀ ws x, c58 f [hcA x, pb 2 0] ((hR58 o ob ws).push (vB x)) = some (.bool (p x), heapOf [hB x] ((hR58 o ob ws).push (vB x))))
    (vs : List ViewV) (hn : vs.length < 1000000) (hrow : vs = [] ∨ ∃ ty ro, o = .cells ty (vrow vs) ro) (c : Nat) (W : Base) (g : Nat → Value) :
    FRwp Try.prog 41 W (.block 0 (.loop c58d)) (N58 o ob f vs.length c 0 g) (fun e st => e = .normal ∧ ∃ g, st = T58 (vs.filter p) g) := by
  refine FRwp.block ?_
  refine FRwp.loop (fun k st => ∃ i g, i ≤ vs.length ∧ k = vs.length - i ∧ st = S58 o ob f vs.length c ((vs.take i).filter p) i g) ?_ (k := vs.length) ⟨0, g, Nat.zero_le _, rfl, rfl⟩
  rintro k st ⟨i, g, hi, hk, rfl⟩
  have hfl : ((vs.take i).filter p).length ≤ i := by
    have := List.length_filter_le p (vs.take i)
    rw [List.length_take] at this
    omega
  cases h14 : decide (i < vs.length) with
  | false =>
    have hii : i = vs.length := by have := of_decide_eq_false h14; omega
    subst hii
    rw [List.take_length] at hfl ⊢
    generalize vs.filter p = us at *
    cases us with
    | nil =>
      refine FRwp.pieceY c58_ok follows 0 _ _ _ _ (n58x o ob f vs.length c vs.length g) (Met.cons (ltO_ok h14) Met.nil) MetH.nil MetE.nil s58d rfl rfl (noFix _) fun g' => .inr ⟨by simp, ?_⟩
      show (if (0 : Nat) = 0 then _ else _)
      rw [if_pos rfl]
      exact ⟨rfl, g', rfl⟩
    | cons w ws =>
      refine FRwp.pieceY c58_ok follows 1 _ _ _ _ (r58x o ob f vs.length c vs.length (w :: ws).length (w :: ws) g) (Met.cons (ltO_ok h14) Met.nil) MetH.nil MetE.nil s58d rfl rfl (fix1 _ []) fun g' => .inr ⟨by simp, ?_⟩
      show (if (0 : Nat) = 0 then _ else _)
      rw [if_pos rfl]
      exact ⟨rfl, g', rfl⟩
  | true =>
    have hlt := of_decide_eq_true h14
    obtain ⟨x, hx⟩ := some_at hlt
    have hr : ∃ ty ro, o = .cells ty (vrow vs) ro := by
      rcases hrow with h | h
      · rw [h] at hlt; simp at hlt
      · exact h
    have hs := filt_step (p := p) hx
    have a0 : RowAt (hN58 o ob) 0 vs := rowAt0 hr
    have b0 : ∀ ws, RowAt (hR58 o ob ws) 0 vs := fun ws => rowAt0 hr
    have met : ∀ {h : Hp}, RowAt h 0 vs → Met [ltO i vs.length true, ixO 0 vs.length c i, ldO h.get 34 0 (i * 7) (.agg ⟨vc x⟩), nxt29 i] := fun hat => Met.cons (ltO_ok h14) (Met.cons (ix_ok hlt) (Met.cons (at_ok hat hx) (Met.cons (wrap_up (by omega)) Met.nil)))
    cases hp : p x with
    | true =>
      rw [hp] at hs
      simp only [cond_true] at hs
      have fin : ∀ {us' : List ViewV} {g' : Nat → Value} {st' : St}, us' = (vs.take i).filter p ++ [x] → st' = R58 o ob f vs.length c us' us'.length (i + 1) g' → ∃ k', k' < k ∧ ∃ i g, i ≤ vs.length ∧ k' = vs.length - i ∧ st' = S58 o ob f vs.length c ((vs.take i).filter p) i g := by
        intro us' g' st' h1 h2
        refine ⟨vs.length - (i + 1), by omega, i + 1, g', by omega, rfl, ?_⟩
        rw [hs, ← h1, S58_ne (by rw [h1]; simp), h2]
      have hN' := hN x
      rw [hp] at hN'
      generalize (vs.take i).filter p = us at *
      cases us with
      | nil => exact FRwp.pieceY c58_ok follows 3 _ _ _ _ (n58t o ob f vs.length c i x g) (met a0) (MetH.cons hN' MetH.nil) MetE.nil s58d rfl rfl (fix3 ho hob _ []) fun g' => .inl ⟨rfl, fin (us' := [x]) rfl rfl⟩
      | cons w ws =>
        generalize hus : w :: ws = us at *
        have hun : us ≠ [] := by rw [← hus]; simp
        rw [S58_ne hun]
        have hR' := hR us x
        rw [hp] at hR'
        have e1 : (us ++ [x]).length = us.length + 1 := by simp
        refine FRwp.pieceY c58_ok follows 3 _ _ _ _ (r58t o ob f vs.length c i us.length us (us ++ [x]) x g) (met (b0 us)) (MetH.cons hR' MetH.nil) (MetE.cons (app_one ?_ ?_ rfl (by omega)) MetE.nil) s58d rfl rfl (fix3 ho hob _ []) fun g' => .inl ⟨rfl, fin (us' := us ++ [x]) rfl (by rw [e1])⟩
        · rw [Hp.get_push, if_neg (by show (1 : Nat) ≠ 6; omega), Hp.get_push, if_neg (by show (1 : Nat) ≠ 5; omega), Hp.get_push, if_neg (by show (1 : Nat) ≠ 4; omega)]
          unfold hR58; rw [heapOf0_get]; rfl
        · rw [Hp.get_push, if_pos (by show (6 : Nat) = 6; rfl)]; rfl
    | false =>
      rw [hp] at hs
      simp only [cond_false, List.append_nil] at hs
      have hN' := hN x
      rw [hp] at hN'
      generalize hus : (vs.take i).filter p = us at *
      cases us with
      | nil => exact FRwp.pieceY c58_ok follows 2 _ _ _ _ (n58f o ob f vs.length c i x g) (met a0) (MetH.cons hN' MetH.nil) MetE.nil s58d rfl rfl (fixOO ho hob []) fun g' => .inl ⟨rfl, vs.length - (i + 1), by omega, i + 1, g', by omega, rfl, by rw [hs]; rfl⟩
      | cons w ws =>
        have hR' := hR (w :: ws) x
        rw [hp] at hR'
        exact FRwp.pieceY c58_ok follows 3 _ _ _ _ (r58f o ob f vs.length c i (w :: ws).length (w :: ws) x g) (met (b0 _)) (MetH.cons hR' MetH.nil) MetE.nil s58d rfl rfl (fix3 ho hob _ []) fun g' => .inl ⟨rfl, vs.length - (i + 1), by omega, i + 1, g', by omega, rfl, by rw [hs]; rfl⟩
def U58 (ws : List ViewV) (ids : List Int) (n i : Nat) (g : Nat → Value) : St := match ids with
  | [] => NB58 ws n i g
  | _ :: _ => RB58 ws ids n ids.length i g
theorem U58_ne {ws : List ViewV} {ids : List Int} {n i : Nat} {g : Nat → Value} (h : ids ≠ []) : U58 ws ids n i g = RB58 ws ids n ids.length i g := by
  cases ids with
  | nil => exact absurd rfl h
  | cons => rfl
theorem idloop_fr (ws : List ViewV) (hw : ws ≠ []) (hn : ws.length < 1000000) (W : Base) (g : Nat → Value) :
    FRwp Try.prog 41 W (.block 2 (.loop c58h)) (NB58 ws ws.length 0 g) (fun e st => e = .normal ∧ ∃ g, st = stOf 41 g [(8, newI 0 ws.length)] [iB (ws.map fun x => x.id)]) := by
  refine FRwp.block ?_
  refine FRwp.loop (fun k st => ∃ i g, i ≤ ws.length ∧ k = ws.length - i ∧ st = U58 ws ((ws.take i).map fun x => x.id) ws.length i g) ?_ (k := ws.length) ⟨0, g, Nat.zero_le _, rfl, rfl⟩
  rintro k st ⟨i, g, hi, hk, rfl⟩
  cases h31 : decide (i < ws.length) with
  | false =>
    have hii : i = ws.length := by have := of_decide_eq_false h31; omega
    subst hii
    have hml : (ws.map fun x => x.id).length = ws.length := List.length_map _
    rw [List.take_length, U58_ne (fun e => hw (List.map_eq_nil_iff.1 e))]
    generalize (ws.map fun x => x.id) = ids at *
    rw [hml]
    generalize ws.length = n at *
    refine FRwp.pieceY c58_ok follows 1 _ _ _ _ (r58hx n n n ws ids g) (Met.cons (ltO_ok h31) Met.nil) MetH.nil MetE.nil s58h rfl rfl (fixI _ []) fun g' => .inr ⟨by simp, ?_⟩
    show (if (2 : Nat) = 2 then _ else _)
    rw [if_pos rfl]
    exact ⟨rfl, g', rfl⟩
  | true =>
    have hlt := of_decide_eq_true h31
    obtain ⟨x, hx⟩ := some_at hlt
    have hs : (ws.take (i + 1)).map (fun x => x.id) = (ws.take i).map (fun x => x.id) ++ [x.id] := by rw [List.take_add_one, hx]; simp
    have fx2 : ∀ ids : List Int, ∀ r : List Blk, ∀ i, i < 2 → ∀ o', (rowB ws :: iB ids :: r)[i]? = some o' → Fixed 0 o' := fun ids => fixOO (row_block ws) (iB_inert ids)
    have il : ((ws.take i).map fun x => x.id).length = i := by simp; omega
    have met : ∀ {h : Hp}, RowAt h 0 ws → Met [ltO i ws.length true, ixO 0 ws.length 22 i, ldO h.get 34 0 (i * 7) (.agg ⟨vc x⟩), nxt29 i] := fun hat => Met.cons (ltO_ok h31) (Met.cons (ix_ok hlt) (Met.cons (at_ok hat hx) (Met.cons (wrap_up (by omega)) Met.nil)))
    have fin : ∀ {jds : List Int} {g' : Nat → Value} {st' : St}, jds = (ws.take i).map (fun x => x.id) ++ [x.id] → st' = RB58 ws jds ws.length jds.length (i + 1) g' → ∃ k', k' < k ∧ ∃ i g, i ≤ ws.length ∧ k' = ws.length - i ∧ st' = U58 ws ((ws.take i).map fun x => x.id) ws.length i g := by
      intro jds g' st' h1 h2
      refine ⟨ws.length - (i + 1), by omega, i + 1, g', by omega, rfl, ?_⟩
      rw [hs, ← h1, U58_ne (by rw [h1]; simp), h2]
    generalize (ws.take i).map (fun x => x.id) = ids at *
    cases ids with
    | nil => exact FRwp.pieceY c58_ok follows 2 _ _ _ _ (n58h ws.length i ws x g) (met (hW_at ws)) MetH.nil MetE.nil s58h rfl rfl (fx2 _ []) fun g' => .inl ⟨rfl, fin (jds := [x.id]) rfl rfl⟩
    | cons w jds =>
      generalize hids : w :: jds = ids at *
      have hun : ids ≠ [] := by rw [← hids]; simp
      rw [U58_ne hun]
      have e1 : (ids ++ [x.id]).length = ids.length + 1 := by simp
      have hat : RowAt (hI58 ws ids) 0 ws := .of (ty := 34) (ro := false) (by unfold hI58; rw [heapOf0_get]; rfl)
      refine FRwp.pieceY c58_ok follows 2 _ _ _ _ (r58h ws.length i ids.length ws ids x g (ids ++ [x.id])) (met hat) MetH.nil (MetE.cons (app_int ?_ ?_ rfl (by omega)) MetE.nil) s58h rfl rfl (fx2 _ []) fun g' => .inl ⟨rfl, fin (jds := ids ++ [x.id]) rfl (by rw [e1])⟩
      · rw [Hp.get_push, if_neg (by show (1 : Nat) ≠ 4; omega), Hp.get_push, if_neg (by show (1 : Nat) ≠ 3; omega)]
        unfold hI58; rw [heapOf0_get]; rfl
      · rw [Hp.get_push, if_pos (by show (4 : Nat) = 4; rfl)]
theorem rise_fr {o ob : Blk} {f : FuncId} {p : ViewV → Bool} (ho : inertB o = true) (hob : inertB ob = true)
    (hN : ∀ x, c58 f [hcA x, pb 1 0] ((hN58 o ob).push (vB x)) = some (.bool (p x), heapOf [hB x] ((hN58 o ob).push (vB x))))
    (hR : ∀ ws x, c58 f [hcA x, pb 2 0] ((hR58 o ob ws).push (vB x)) = some (.bool (p x), heapOf [hB x] ((hR58 o ob ws).push (vB x))))
    (hK : ∀ x, p x = true → Kn x) (vs : List ViewV) (hn : vs.length < 1000000) (hrow : vs = [] ∨ ∃ ty ro, o = .cells ty (vrow vs) ro) (c : Nat) (W : Base) :
    FRwp Try.prog 41 W code58 ⟨tmsOf [rowS 0 vs.length c, Cl f 1] 0 .leaf, heapOf [o, ob, .dead] hp0, []⟩ (EndsQ (idsP p vs)) := by
  refine FRwp.seq (Q1 := fun x st => x = .normal ∧ ∃ g, st = stOf 41 g [(0, rowS 0 vs.length c), (1, Cl f 1)] [o, ob]) (FRwp.pieceY c58_ok follows 2 _ _ _ _ (r58a o ob f vs.length c) Met.nil MetH.nil MetE.nil s58a rfl rfl (fixOO ho hob []) fun g => ⟨rfl, g, rfl⟩) ?_ (fun x st hne hq => absurd hq.1 hne)
  rintro st ⟨-, g, rfl⟩
  refine FRwp.seq (Q1 := fun x st => x = .normal ∧ ∃ g, st = stOf 41 g [(0, rowS 0 vs.length c), (1, Cl f 1), (5, nilS)] [o, ob]) (FRwp.pieceY c58_ok follows 2 _ _ _ _ (r58b o ob f vs.length c g) Met.nil MetH.nil MetE.nil s58b rfl rfl (fixOO ho hob []) fun g => ⟨rfl, g, rfl⟩) ?_ (fun x st hne hq => absurd hq.1 hne)
  rintro st ⟨-, g, rfl⟩
  refine FRwp.seq (Q1 := fun x st => x = .normal ∧ ∃ g, st = T58 (vs.filter p) g) ?_ ?_ (fun x st hne hq => absurd hq.1 hne)
  · refine FRwp.seq (Q1 := fun x st => x = .normal ∧ ∃ g, st = N58 o ob f vs.length c 0 g) (FRwp.pieceY c58_ok follows 2 _ _ _ _ (r58c o ob f vs.length c g) Met.nil MetH.nil MetE.nil s58c rfl rfl (fixOO ho hob []) fun g => ⟨rfl, g, rfl⟩) ?_ (fun x st hne hq => absurd hq.1 hne)
    rintro st ⟨-, g, rfl⟩
    exact filtloop_fr ho hob hN hR vs hn hrow c W g
  rintro st ⟨-, g, rfl⟩
  have hfk : ∀ z ∈ vs.filter p, Kn z := fun z hz => hK z (List.mem_filter.1 hz).2
  have hfl : (vs.filter p).length ≤ vs.length := List.length_filter_le _ _
  unfold idsP
  generalize vs.filter p = us at *
  cases us with
  | nil => exact FRwp.piece c58n_ok follows 0 _ _ _ _ (n58r g) Met.nil s58r rfl rfl rfl (noFix _) fun g => ⟨rfl, g, rfl⟩
  | cons w ws =>
    generalize hus : w :: ws = us at *
    have hT : T58 us g = stOf 41 g [(5, newS 0 us.length)] [rowB us] := by rw [← hus]; rfl
    rw [hT]
    have hsl : (ssort ltV us).length = us.length := len_ssort
    have hcall : c58 78 [newS 0 us.length, Fc] (hW us) = some (vU, (hW us).put 0 (rowB (ssort ltV us))) := by rw [c58_78]; exact G78_of rfl (by omega) hfk (hW_get us)
    refine FRwp.seq (Q1 := fun x st => x = .normal ∧ ∃ g, st = stOf 41 g [(5, newS 0 us.length)] [rowB (ssort ltV us)]) (FRwp.pieceY c58_ok follows 1 _ _ _ _ (r58e us.length us (ssort ltV us) g) Met.nil (MetH.cons hcall MetH.nil) MetE.nil s58e rfl rfl (fix1 _ []) fun g => ⟨rfl, g, rfl⟩) ?_ (fun x st hne hq => absurd hq.1 hne)
    rintro st ⟨-, g, rfl⟩
    refine FRwp.seq (Q1 := fun x st => x = .normal ∧ ∃ g, st = stOf 41 g [(5, newS 0 us.length), (8, nilS)] [rowB (ssort ltV us)]) (FRwp.pieceY c58_ok follows 1 _ _ _ _ (r58g0 us.length (ssort ltV us) g) Met.nil MetH.nil MetE.nil s58f rfl rfl (fix1 _ []) fun g => ⟨rfl, g, rfl⟩) ?_ (fun x st hne hq => absurd hq.1 hne)
    rintro st ⟨-, g, rfl⟩
    have hsn : ssort ltV us ≠ [] := fun h => by rw [h] at hsl; rw [← hus] at hsl; simp at hsl
    refine FRwp.seq (Q1 := fun x st => x = .normal ∧ ∃ g, st = stOf 41 g [(8, newI 0 us.length)] [iB ((ssort ltV us).map fun x => x.id)]) ?_ ?_ (fun x st hne hq => absurd hq.1 hne)
    · refine FRwp.seq (Q1 := fun x st => x = .normal ∧ ∃ g, st = NB58 (ssort ltV us) us.length 0 g) (FRwp.pieceY c58_ok follows 1 _ _ _ _ (r58g us.length (ssort ltV us) g) Met.nil MetH.nil MetE.nil s58g rfl rfl (fix1 _ []) fun g => ⟨rfl, g, rfl⟩) ?_ (fun x st hne hq => absurd hq.1 hne)
      rintro st ⟨-, g, rfl⟩
      have := idloop_fr (ssort ltV us) hsn (by omega) W g
      rw [hsl] at this
      exact this
    · rintro st ⟨-, g, rfl⟩
      refine FRwp.pieceY c58_ok follows 1 _ _ _ _ (r58i us.length ((ssort ltV us).map fun x => x.id) g) Met.nil MetH.nil MetE.nil s58i rfl rfl (fixI _ []) fun g => ⟨rfl, g, ?_⟩
      have hml : ((ssort ltV us).map fun x => x.id).length = us.length := by rw [List.length_map, hsl]
      generalize (ssort ltV us).map (fun x => x.id) = ids at *
      cases ids with
      | nil => rw [← hus] at hml; simp at hml
      | cons i ids => show _ = stOf 41 g [(4, newI 0 (i :: ids).length)] [iB (i :: ids)]; rw [hml]
theorem rise_nil {ob : Blk} (hob : inertB ob = true) (f : FuncId) (p : ViewV → Bool) (W : Base) : FRwp Try.prog 41 W code58 ⟨tmsOf [nilS, Cl f 0] 0 .leaf, heapOf [ob, .dead] hp0, []⟩ (EndsQ (idsP p [])) :=
  FRwp.piece c58n_ok follows 0 _ _ _ _ (n58 ob f) Met.nil (by kernel_rfl) rfl rfl rfl (noFix _) fun g => ⟨rfl, g, rfl⟩
/-- What a function value is of: its answers at the two heaps of rising's own frame. -/
structure Asks (f : FuncId) (own : ViewV) (p : ViewV → Bool) : Prop where
  known : ∀ x, p x = true → Kn x
  one : ∀ o x, c58 f [hcA x, pb 1 0] ((hN58 o (.cells 23 (hcL own) true)).push (vB x)) = some (.bool (p x), heapOf [hB x] ((hN58 o (.cells 23 (hcL own) true)).push (vB x)))
  two : ∀ o ws x, c58 f [hcA x, pb 2 0] ((hR58 o (.cells 23 (hcL own) true) ws).push (vB x)) = some (.bool (p x), heapOf [hB x] ((hR58 o (.cells 23 (hcL own) true) ws).push (vB x)))
theorem asks_below (own : ViewV) : Asks 59 own (fun x => ltV x own) where
  known x h := by
    unfold ltV less at h
    exact (Bool.and_eq_true_iff.1 h).1
  one o x := by kernel_rfl
  two o ws x := by kernel_rfl
theorem asks_above (own : ViewV) : Asks 60 own (fun x => ltV own x) where
  known x h := by
    unfold ltV less at h
    exact (Bool.and_eq_true_iff.1 (Bool.and_eq_true_iff.1 h).2).1
  one o x := by kernel_rfl
  two o ws x := by kernel_rfl
open Classical in
noncomputable def g58 (f : FuncId) (own : ViewV) (p : ViewV → Bool) (vs : List ViewV) : HeapFn := fun args hp => match args with
  | [s, v] => if TN vs s hp ∧ ∃ b2, v = Cl f b2 ∧ hp.get b2 = some (hB own) ∧ (∀ b n c, s = rowS b n c → b ≠ b2) then some (rowIv (idsP p vs) hp.sz, heapOf (rowIO (idsP p vs) ++ [.dead]) hp) else none
  | _ => none
theorem hk58 {f : FuncId} {own : ViewV} {p : ViewV → Bool} (ha : Asks f own p) (vs : List ViewV) (hn : vs.length < 1000000) : CallGoal Try.prog 58 (g58 f own p vs) := scan_goal follows Try.func58 body58 (by kernel_rfl) fun args hp v hp' h hk => by
  unfold g58 at h
  rw [ntmps58]
  split at h
  case h_2 => cases h
  rename_i s v
  split at h
  case isFalse => cases h
  rename_i hT
  cases h
  obtain ⟨hT, b2, rfl, hb2, hne⟩ := hT
  have iB2 : inertB (hB own) = true := rfl
  have hq : inertB (.cells 23 (hcL own) true) = true := rfl
  have run : ∃ (K0 : List Nat), nodupB K0 = true ∧ (∀ b ∈ K0, ∃ o, hp.get b = some o ∧ startOk o = true) ∧ ([s, Cl f b2]).all ok3 = true ∧ ∀ W, FRwp Try.prog 41 W code58 ⟨tmsOf ([s, Cl f b2].map (sh3 K0 0)) 0 .leaf, startHp K0 hp, []⟩ (EndsQ (idsP p vs)) := by
    rcases hT with ⟨rfl, rfl⟩ | ⟨b, c, ob, rfl, hb, hi, hr⟩
    · refine ⟨[b2], rfl, fun b' hb' => ?_, rfl, fun W => ?_⟩
      · have : b' = b2 := by simpa using hb'
        subst this
        exact ⟨_, hb2, inert_start iB2⟩
      · have e1 : [nilS, Cl f b2].map (sh3 [b2] 0) = [nilS, Cl f 0] := by simp [sh3, sh2, sh1, rho, idxOf, nilS, Cl, pb]
        rw [e1, start1 hb2 iB2]
        exact rise_nil rfl f p W
    · have hbn : b ≠ b2 := hne b vs.length c rfl
      have hbe : Nat.beq b b2 = false := by
        cases e : Nat.beq b b2 with
        | false => rfl
        | true => exact absurd (Nat.eq_of_beq_eq_true e) hbn
      refine ⟨[b, b2], by simp [nodupB, hbe], fun b' hb' => ?_, rfl, fun W => ?_⟩
      · have : b' = b ∨ b' = b2 := by simpa using hb'
        rcases this with rfl | rfl
        · exact ⟨ob, hb, inert_start hi⟩
        · exact ⟨_, hb2, inert_start iB2⟩
      · have e1 : [rowS b vs.length c, Cl f b2].map (sh3 [b, b2] 0) = [rowS 0 vs.length c, Cl f 1] := by simp [sh3, sh2, sh1, rho, idxOf, rowS, Cl, pb, hbe]
        rw [e1, start2 hb hb2 hi iB2]
        exact rise_fr (ro_inert hi) hq (fun x => ha.one _ x) (fun ws x => ha.two _ ws x) ha.known vs hn (ro_row hr) c W
  obtain ⟨K0, n0, hst, hall, hrun⟩ := run
  unfold EndsQ at hrun
  generalize idsP p vs = ids at *
  cases ids with
  | nil =>
    refine ⟨K0, [], [], rfl, rfl, n0, rfl, hst, hall, (by simp), fun W => FRwp.mono (hrun W) fun e st q => ?_⟩
    obtain ⟨rfl, g, rfl⟩ := q
    exact ⟨.inr rfl, rfl, _, q58 _ _ g, rfl, (fun b hb => by cases hb), by simp [sh3, sh2, sh1, rowIv, nilS], rfl⟩
  | cons i ids =>
    refine ⟨K0, [0], [iB (i :: ids)], rfl, rfl, n0, rfl, hst, hall, (by simp), fun W => FRwp.mono (hrun W) fun e st q => ?_⟩
    obtain ⟨rfl, g, rfl⟩ := q
    have hg : (stOf 41 g [(4, rowIv (i :: ids) 0)] [iB (i :: ids)]).hp.get 0 = some (iB (i :: ids)) := by show (heapOf _ hp0).get 0 = _; rw [heapOf0_get]; rfl
    refine ⟨.inr rfl, rfl, _, q58 _ _ g, rfl, fun b' hb' => ?_, by simp [sh3, sh2, sh1, rho, idxOf, rowIv, newI], ?_⟩
    · have : b' = 0 := by simpa using hb'
      subst this
      exact ⟨_, hg, ok2_inert (iB_inert _), rfl⟩
    · simp only [outOf, List.map_cons, List.map_nil]
      show [iB (i :: ids)] = [shBlk [0] hp.sz (((stOf 41 g [(4, rowIv (i :: ids) 0)] [iB (i :: ids)]).hp.get 0).getD .dead)]
      rw [hg]
      exact congrArg (fun z => [z]) (inert_shBlk (iB_inert _) [0] hp.sz).symm
end Go.Proofs.Ytiogdklmhpllfaa.LtA
namespace Go.Proofs.Ytiogdklmhpllfaa.LtA
open Go Go.Proofs Go.Proofs.Ytiogdklmhpllfaa.AI Go.RowKit Go.Proofs.Ytiogdklmhpllfaa.Sort

def ownI (ids : List Int) : Blk := match ids with
  | [] => .dead
  | _ :: _ => iB ids
theorem pad_rowI {k : HeapFn} {args : List Value} {hp : Hp} {v : Value} {ids : List Int} (h : k args hp = some (v, heapOf (rowIO ids ++ [.dead]) hp)) : padF k args hp = some (v, heapOf [ownI ids, .dead] hp) := by
  cases ids with
  | nil => exact pad_one h
  | cons => exact pad_two h
/-! ### Below -/
def pr24 (own x : ViewV) : Bool := ltV x own
theorem asks24 (own : ViewV) : Asks 59 own (pr24 own) := asks_below own
noncomputable def E24 (own : ViewV) (vs : List ViewV) : Ext := extG (extH Try.prog []) [(58, g58 59 own (pr24 own) vs)]
noncomputable def c24 (own : ViewV) (vs : List ViewV) : CallF := aCall Try.prog (E24 own vs) 5
theorem c24_ok (own : ViewV) (vs : List ViewV) (hn : vs.length < 1000000) : CallOk Try.prog (c24 own vs) := aCall_sound (extG_ok (extH_ok .nil) (.cons (hk58 (asks24 own) vs hn) .nil)) follows 5
noncomputable def fb24 : Code := (Try.f24.body).getD .skip
theorem body24 : Try.f24.body = some fb24 := by kernel_rfl
theorem ntmps24 : Try.f24.ntmps = 8 := by kernel_rfl
theorem s24 : codeSafe Try.prog 8 fb24 = true := by kernel_rfl
theorem q24 (v : Value) (O : List Blk) (g : Nat → Value) : retVal Try.prog Try.f24 (stOf 8 g [(4, v)] O) = some v := by kernel_rfl
section
variable (o : Blk) (own : ViewV) (vs : List ViewV) (n c k : Nat) (ids : List Int)
theorem r24t : (execE Try.prog (c24 own vs) [] [(7, newI 3 k, [iB ids, .dead])] [] 20 fb24 ⟨tmsOf [rowS 0 n c, hcA own] 0 .leaf, heapOf [o, .dead] hp0, []⟩).map (fun z => (look2 1 [3] [4] (z.1, z.2.1), z.2.2)) =
    some ((.ret, [iB ids], [(4, newI 0 k)], true), [], [(c24 own vs 58 [rowS 0 n c, Cl 59 2] (heapOf [o, .dead, hB own] hp0), (newI 3 k, heapOf [iB ids, .dead] (heapOf [o, .dead, hB own] hp0)))], []) := by kernel_rfl
theorem r24f : (execE Try.prog (c24 own vs) [] [(7, nilS, [.dead])] [] 20 fb24 ⟨tmsOf [rowS 0 n c, hcA own] 0 .leaf, heapOf [o, .dead] hp0, []⟩).map (fun z => (look2 0 [] [4] (z.1, z.2.1), z.2.2)) =
    some ((.ret, [], [(4, nilS)], true), [], [(c24 own vs 58 [rowS 0 n c, Cl 59 2] (heapOf [o, .dead, hB own] hp0), (nilS, heapOf [.dead] (heapOf [o, .dead, hB own] hp0)))], []) := by kernel_rfl
theorem r24n : (execE Try.prog (c24 own vs) [] [(7, nilS, [.dead])] [] 20 fb24 ⟨tmsOf [nilS, hcA own] 0 .leaf, heapOf [.dead] hp0, []⟩).map (fun z => (look2 0 [] [4] (z.1, z.2.1), z.2.2)) =
    some ((.ret, [], [(4, nilS)], true), [], [(c24 own vs 58 [nilS, Cl 59 1] (heapOf [.dead, hB own] hp0), (nilS, heapOf [.dead] (heapOf [.dead, hB own] hp0)))], []) := by kernel_rfl
end
open Classical in
theorem c24_58 {own : ViewV} {vs : List ViewV} {s : Value} {b2 : Nat} {hp : Hp} (hT : TN vs s hp) (hb : hp.get b2 = some (hB own)) (hne : ∀ b n c, s = rowS b n c → b ≠ b2) : c24 own vs 58 [s, Cl 59 b2] hp = some (rowIv (idsP (pr24 own) vs) hp.sz, heapOf (rowIO (idsP (pr24 own) vs) ++ [.dead]) hp) := by
  show aCall Try.prog (E24 own vs) 5 58 _ _ = _
  rw [aCall]
  have hE : E24 own vs 58 = some fun _ args h => g58 59 own (pr24 own) vs args h := rfl
  rw [hE]
  show (if TN vs s hp ∧ ∃ b, Cl 59 b2 = Cl 59 b ∧ hp.get b = some (hB own) ∧ (∀ b' n c, s = rowS b' n c → b' ≠ b) then _ else _) = _
  rw [if_pos ⟨hT, b2, rfl, hb, hne⟩]
def Ends24 (ids : List Int) (e : Exit) (st : St) : Prop := e = .ret ∧ ∃ g, st = stOf 8 g [(4, rowIv ids 0)] (rowIO ids)
theorem fr24 (o : Blk) (ho : inertB o = true) (own : ViewV) (vs : List ViewV) (hn : vs.length < 1000000) (hrow : vs = [] ∨ ∃ ty ro, o = .cells ty (vrow vs) ro) (c : Nat) (W : Base) :
    FRwp Try.prog 8 W fb24 ⟨tmsOf [rowS 0 vs.length c, hcA own] 0 .leaf, heapOf [o, .dead] hp0, []⟩ (Ends24 (idsP (pr24 own) vs)) := by
  have g0 : (heapOf [o, .dead, hB own] hp0).get 0 = some o := by rw [heapOf0_get]; rfl
  have h := c24_58 (own := own) (vs := vs) (s := rowS 0 vs.length c) (b2 := 2) (hp := heapOf [o, .dead, hB own] hp0) (.inr ⟨0, c, o, rfl, g0, ho, hrow⟩) (by rw [heapOf0_get]; rfl) (fun b n c' e => by simp [rowS] at e; omega)
  generalize idsP (pr24 own) vs = ids at *
  cases ids with
  | nil => exact FRwp.pieceY (c24_ok own vs hn) follows 0 _ _ _ _ (r24f o own vs vs.length c) Met.nil (MetH.cons h MetH.nil) MetE.nil s24 rfl rfl (noFix _) fun g => ⟨rfl, g, rfl⟩
  | cons i ids => exact FRwp.pieceY (c24_ok own vs hn) follows 1 _ _ _ _ (r24t o own vs vs.length c (i :: ids).length (i :: ids)) Met.nil (MetH.cons h MetH.nil) MetE.nil s24 rfl rfl (fixI _ []) fun g => ⟨rfl, g, rfl⟩
theorem frn24 (own : ViewV) (W : Base) : FRwp Try.prog 8 W fb24 ⟨tmsOf [nilS, hcA own] 0 .leaf, heapOf [.dead] hp0, []⟩ (Ends24 (idsP (pr24 own) [])) := by
  have h := c24_58 (own := own) (vs := []) (s := nilS) (b2 := 1) (hp := heapOf [.dead, hB own] hp0) (.inl ⟨rfl, rfl⟩) (by rw [heapOf0_get]; rfl) (fun b n c' e => by simp [nilS, rowS] at e)
  exact FRwp.pieceY (c24_ok own [] (by simp)) follows 0 _ _ _ _ (r24n own []) Met.nil (MetH.cons h MetH.nil) MetE.nil s24 rfl rfl (noFix _) fun g => ⟨rfl, g, rfl⟩
open Classical in
noncomputable def g24 (vs : List ViewV) : HeapFn := fun args hp => match args with
  | [s, .agg cs] => match cs.toList with
    | [.bool n, .int .i64 t, .int .i64 o, .int .i64 r, .int .i64 d, .int .i64 i] =>
      if TN vs s hp then some (rowIv (idsP (pr24 ⟨0, n, t, o, r, d, i⟩) vs) hp.sz, heapOf (rowIO (idsP (pr24 ⟨0, n, t, o, r, d, i⟩) vs) ++ [.dead]) hp) else none
    | _ => none
  | _ => none
theorem hk24 (vs : List ViewV) (hn : vs.length < 1000000) : CallGoal Try.prog 24 (g24 vs) := scan_goal follows Try.func24 body24 (by kernel_rfl) fun args hp v hp' h hk => by
  unfold g24 at h
  rw [ntmps24]
  split at h
  case h_2 => cases h
  rename_i s cs
  split at h
  case h_2 => cases h
  rename_i n t o r d i hcs
  obtain rfl := arr_of hcs
  generalize hy : (⟨0, n, t, o, r, d, i⟩ : ViewV) = own at h
  have eh : Value.agg [.bool n, .int .i64 t, .int .i64 o, .int .i64 r, .int .i64 d, .int .i64 i].toArray = hcA own := by rw [← hy]; rfl
  rw [eh]
  split at h
  case isFalse => cases h
  rename_i hT
  cases h
  have run : ∃ (K0 : List Nat), nodupB K0 = true ∧ (∀ b ∈ K0, ∃ o, hp.get b = some o ∧ startOk o = true) ∧ ([s, hcA own]).all ok3 = true ∧ ∀ W, FRwp Try.prog 8 W fb24 ⟨tmsOf ([s, hcA own].map (sh3 K0 0)) 0 .leaf, startHp K0 hp, []⟩ (Ends24 (idsP (pr24 own) vs)) := by
    rcases hT with ⟨rfl, rfl⟩ | ⟨b, c, ob, rfl, hb, hi, hr⟩
    · refine ⟨[], rfl, (fun b hb => by cases hb), rfl, fun W => ?_⟩
      have e1 : [nilS, hcA own].map (sh3 [] 0) = [nilS, hcA own] := by simp [sh3, sh2, sh1, nilS, hcA]
      rw [e1]
      exact frn24 own W
    · refine ⟨[b], rfl, fun b' hb' => ?_, rfl, fun W => ?_⟩
      · have : b' = b := by simpa using hb'
        subst this
        exact ⟨ob, hb, inert_start hi⟩
      · have e1 : [rowS b vs.length c, hcA own].map (sh3 [b] 0) = [rowS 0 vs.length c, hcA own] := by simp [sh3, sh2, sh1, rho, idxOf, rowS, hcA]
        rw [e1, start1 hb hi]
        exact fr24 (roBlk ob) (ro_inert hi) own vs hn (ro_row hr) c W
  obtain ⟨K0, n0, hst, hall, hrun⟩ := run
  unfold Ends24 at hrun
  generalize idsP (pr24 own) vs = ids at *
  cases ids with
  | nil =>
    refine ⟨K0, [], [], rfl, rfl, n0, rfl, hst, hall, (by simp), fun W => FRwp.mono (hrun W) fun e st q => ?_⟩
    obtain ⟨rfl, g, rfl⟩ := q
    exact ⟨.inr rfl, rfl, _, q24 _ _ g, rfl, (fun b hb => by cases hb), by simp [sh3, sh2, sh1, rowIv, nilS], rfl⟩
  | cons i ids =>
    refine ⟨K0, [0], [iB (i :: ids)], rfl, rfl, n0, rfl, hst, hall, (by simp), fun W => FRwp.mono (hrun W) fun e st q => ?_⟩
    obtain ⟨rfl, g, rfl⟩ := q
    have hg : (stOf 8 g [(4, rowIv (i :: ids) 0)] [iB (i :: ids)]).hp.get 0 = some (iB (i :: ids)) := by show (heapOf _ hp0).get 0 = _; rw [heapOf0_get]; rfl
    refine ⟨.inr rfl, rfl, _, q24 _ _ g, rfl, fun b' hb' => ?_, by simp [sh3, sh2, sh1, rho, idxOf, rowIv, newI], ?_⟩
    · have : b' = 0 := by simpa using hb'
      subst this
      exact ⟨_, hg, ok2_inert (iB_inert _), rfl⟩
    · simp only [outOf, List.map_cons, List.map_nil]
      show [iB (i :: ids)] = [shBlk [0] hp.sz (((stOf 8 g [(4, rowIv (i :: ids) 0)] [iB (i :: ids)]).hp.get 0).getD .dead)]
      rw [hg]
      exact congrArg (fun z => [z]) (inert_shBlk (iB_inert _) [0] hp.sz).symm
noncomputable def G24 : HeapFn := padF (atRow (fun _ => True) g24)
theorem hkG24 : CallGoal Try.prog 24 G24 := pad_goal (atRow_goal fun vs hn _ => hk24 vs hn)
open Classical in
theorem G24_of {vs : List ViewV} {s : Value} {hp : Hp} (own : ViewV) (h : TN vs s hp) (hn : vs.length < 1000000) : G24 [s, hcA own] hp = some (rowIv (idsP (pr24 own) vs) hp.sz, heapOf [ownI (idsP (pr24 own) vs), .dead] hp) := by
  unfold G24
  refine pad_rowI ?_
  rw [atRow_of h hn trivial]
  show (if TN vs s hp then _ else _) = _
  rw [if_pos h]
  rfl
/-! ### Above -/
def pr25 (own x : ViewV) : Bool := ltV own x
theorem asks25 (own : ViewV) : Asks 60 own (pr25 own) := asks_above own
noncomputable def E25 (own : ViewV) (vs : List ViewV) : Ext := extG (extH Try.prog []) [(58, g58 60 own (pr25 own) vs)]
noncomputable def c25 (own : ViewV) (vs : List ViewV) : CallF := aCall Try.prog (E25 own vs) 5
theorem c25_ok (own : ViewV) (vs : List ViewV) (hn : vs.length < 1000000) : CallOk Try.prog (c25 own vs) := aCall_sound (extG_ok (extH_ok .nil) (.cons (hk58 (asks25 own) vs hn) .nil)) follows 5
noncomputable def fb25 : Code := (Try.f25.body).getD .skip
theorem body25 : Try.f25.body = some fb25 := by kernel_rfl
theorem ntmps25 : Try.f25.ntmps = 8 := by kernel_rfl
theorem s25 : codeSafe Try.prog 8 fb25 = true := by kernel_rfl
theorem q25 (v : Value) (O : List Blk) (g : Nat → Value) : retVal Try.prog Try.f25 (stOf 8 g [(4, v)] O) = some v := by kernel_rfl
section
variable (o : Blk) (own : ViewV) (vs : List ViewV) (n c k : Nat) (ids : List Int)
theorem r25t : (execE Try.prog (c25 own vs) [] [(7, newI 3 k, [iB ids, .dead])] [] 20 fb25 ⟨tmsOf [rowS 0 n c, hcA own] 0 .leaf, heapOf [o, .dead] hp0, []⟩).map (fun z => (look2 1 [3] [4] (z.1, z.2.1), z.2.2)) =
    some ((.ret, [iB ids], [(4, newI 0 k)], true), [], [(c25 own vs 58 [rowS 0 n c, Cl 60 2] (heapOf [o, .dead, hB own] hp0), (newI 3 k, heapOf [iB ids, .dead] (heapOf [o, .dead, hB own] hp0)))], []) := by kernel_rfl
theorem r25f : (execE Try.prog (c25 own vs) [] [(7, nilS, [.dead])] [] 20 fb25 ⟨tmsOf [rowS 0 n c, hcA own] 0 .leaf, heapOf [o, .dead] hp0, []⟩).map (fun z => (look2 0 [] [4] (z.1, z.2.1), z.2.2)) =
    some ((.ret, [], [(4, nilS)], true), [], [(c25 own vs 58 [rowS 0 n c, Cl 60 2] (heapOf [o, .dead, hB own] hp0), (nilS, heapOf [.dead] (heapOf [o, .dead, hB own] hp0)))], []) := by kernel_rfl
theorem r25n : (execE Try.prog (c25 own vs) [] [(7, nilS, [.dead])] [] 20 fb25 ⟨tmsOf [nilS, hcA own] 0 .leaf, heapOf [.dead] hp0, []⟩).map (fun z => (look2 0 [] [4] (z.1, z.2.1), z.2.2)) =
    some ((.ret, [], [(4, nilS)], true), [], [(c25 own vs 58 [nilS, Cl 60 1] (heapOf [.dead, hB own] hp0), (nilS, heapOf [.dead] (heapOf [.dead, hB own] hp0)))], []) := by kernel_rfl
end
open Classical in
theorem c25_58 {own : ViewV} {vs : List ViewV} {s : Value} {b2 : Nat} {hp : Hp} (hT : TN vs s hp) (hb : hp.get b2 = some (hB own)) (hne : ∀ b n c, s = rowS b n c → b ≠ b2) : c25 own vs 58 [s, Cl 60 b2] hp = some (rowIv (idsP (pr25 own) vs) hp.sz, heapOf (rowIO (idsP (pr25 own) vs) ++ [.dead]) hp) := by
  show aCall Try.prog (E25 own vs) 5 58 _ _ = _
  rw [aCall]
  have hE : E25 own vs 58 = some fun _ args h => g58 60 own (pr25 own) vs args h := rfl
  rw [hE]
  show (if TN vs s hp ∧ ∃ b, Cl 60 b2 = Cl 60 b ∧ hp.get b = some (hB own) ∧ (∀ b' n c, s = rowS b' n c → b' ≠ b) then _ else _) = _
  rw [if_pos ⟨hT, b2, rfl, hb, hne⟩]
def Ends25 (ids : List Int) (e : Exit) (st : St) : Prop := e = .ret ∧ ∃ g, st = stOf 8 g [(4, rowIv ids 0)] (rowIO ids)
theorem fr25 (o : Blk) (ho : inertB o = true) (own : ViewV) (vs : List ViewV) (hn : vs.length < 1000000) (hrow : vs = [] ∨ ∃ ty ro, o = .cells ty (vrow vs) ro) (c : Nat) (W : Base) :
    FRwp Try.prog 8 W fb25 ⟨tmsOf [rowS 0 vs.length c, hcA own] 0 .leaf, heapOf [o, .dead] hp0, []⟩ (Ends25 (idsP (pr25 own) vs)) := by
  have g0 : (heapOf [o, .dead, hB own] hp0).get 0 = some o := by rw [heapOf0_get]; rfl
  have h := c25_58 (own := own) (vs := vs) (s := rowS 0 vs.length c) (b2 := 2) (hp := heapOf [o, .dead, hB own] hp0) (.inr ⟨0, c, o, rfl, g0, ho, hrow⟩) (by rw [heapOf0_get]; rfl) (fun b n c' e => by simp [rowS] at e; omega)
  generalize idsP (pr25 own) vs = ids at *
  cases ids with
  | nil => exact FRwp.pieceY (c25_ok own vs hn) follows 0 _ _ _ _ (r25f o own vs vs.length c) Met.nil (MetH.cons h MetH.nil) MetE.nil s25 rfl rfl (noFix _) fun g => ⟨rfl, g, rfl⟩
  | cons i ids => exact FRwp.pieceY (c25_ok own vs hn) follows 1 _ _ _ _ (r25t o own vs vs.length c (i :: ids).length (i :: ids)) Met.nil (MetH.cons h MetH.nil) MetE.nil s25 rfl rfl (fixI _ []) fun g => ⟨rfl, g, rfl⟩
theorem frn25 (own : ViewV) (W : Base) : FRwp Try.prog 8 W fb25 ⟨tmsOf [nilS, hcA own] 0 .leaf, heapOf [.dead] hp0, []⟩ (Ends25 (idsP (pr25 own) [])) := by
  have h := c25_58 (own := own) (vs := []) (s := nilS) (b2 := 1) (hp := heapOf [.dead, hB own] hp0) (.inl ⟨rfl, rfl⟩) (by rw [heapOf0_get]; rfl) (fun b n c' e => by simp [nilS, rowS] at e)
  exact FRwp.pieceY (c25_ok own [] (by simp)) follows 0 _ _ _ _ (r25n own []) Met.nil (MetH.cons h MetH.nil) MetE.nil s25 rfl rfl (noFix _) fun g => ⟨rfl, g, rfl⟩
open Classical in
noncomputable def g25 (vs : List ViewV) : HeapFn := fun args hp => match args with
  | [s, .agg cs] => match cs.toList with
    | [.bool n, .int .i64 t, .int .i64 o, .int .i64 r, .int .i64 d, .int .i64 i] =>
      if TN vs s hp then some (rowIv (idsP (pr25 ⟨0, n, t, o, r, d, i⟩) vs) hp.sz, heapOf (rowIO (idsP (pr25 ⟨0, n, t, o, r, d, i⟩) vs) ++ [.dead]) hp) else none
    | _ => none
  | _ => none
theorem hk25 (vs : List ViewV) (hn : vs.length < 1000000) : CallGoal Try.prog 25 (g25 vs) := scan_goal follows Try.func25 body25 (by kernel_rfl) fun args hp v hp' h hk => by
  unfold g25 at h
  rw [ntmps25]
  split at h
  case h_2 => cases h
  rename_i s cs
  split at h
  case h_2 => cases h
  rename_i n t o r d i hcs
  obtain rfl := arr_of hcs
  generalize hy : (⟨0, n, t, o, r, d, i⟩ : ViewV) = own at h
  have eh : Value.agg [.bool n, .int .i64 t, .int .i64 o, .int .i64 r, .int .i64 d, .int .i64 i].toArray = hcA own := by rw [← hy]; rfl
  rw [eh]
  split at h
  case isFalse => cases h
  rename_i hT
  cases h
  have run : ∃ (K0 : List Nat), nodupB K0 = true ∧ (∀ b ∈ K0, ∃ o, hp.get b = some o ∧ startOk o = true) ∧ ([s, hcA own]).all ok3 = true ∧ ∀ W, FRwp Try.prog 8 W fb25 ⟨tmsOf ([s, hcA own].map (sh3 K0 0)) 0 .leaf, startHp K0 hp, []⟩ (Ends25 (idsP (pr25 own) vs)) := by
    rcases hT with ⟨rfl, rfl⟩ | ⟨b, c, ob, rfl, hb, hi, hr⟩
    · refine ⟨[], rfl, (fun b hb => by cases hb), rfl, fun W => ?_⟩
      have e1 : [nilS, hcA own].map (sh3 [] 0) = [nilS, hcA own] := by simp [sh3, sh2, sh1, nilS, hcA]
      rw [e1]
      exact frn25 own W
    · refine ⟨[b], rfl, fun b' hb' => ?_, rfl, fun W => ?_⟩
      · have : b' = b := by simpa using hb'
        subst this
        exact ⟨ob, hb, inert_start hi⟩
      · have e1 : [rowS b vs.length c, hcA own].map (sh3 [b] 0) = [rowS 0 vs.length c, hcA own] := by simp [sh3, sh2, sh1, rho, idxOf, rowS, hcA]
        rw [e1, start1 hb hi]
        exact fr25 (roBlk ob) (ro_inert hi) own vs hn (ro_row hr) c W
  obtain ⟨K0, n0, hst, hall, hrun⟩ := run
  unfold Ends25 at hrun
  generalize idsP (pr25 own) vs = ids at *
  cases ids with
  | nil =>
    refine ⟨K0, [], [], rfl, rfl, n0, rfl, hst, hall, (by simp), fun W => FRwp.mono (hrun W) fun e st q => ?_⟩
    obtain ⟨rfl, g, rfl⟩ := q
    exact ⟨.inr rfl, rfl, _, q25 _ _ g, rfl, (fun b hb => by cases hb), by simp [sh3, sh2, sh1, rowIv, nilS], rfl⟩
  | cons i ids =>
    refine ⟨K0, [0], [iB (i :: ids)], rfl, rfl, n0, rfl, hst, hall, (by simp), fun W => FRwp.mono (hrun W) fun e st q => ?_⟩
    obtain ⟨rfl, g, rfl⟩ := q
    have hg : (stOf 8 g [(4, rowIv (i :: ids) 0)] [iB (i :: ids)]).hp.get 0 = some (iB (i :: ids)) := by show (heapOf _ hp0).get 0 = _; rw [heapOf0_get]; rfl
    refine ⟨.inr rfl, rfl, _, q25 _ _ g, rfl, fun b' hb' => ?_, by simp [sh3, sh2, sh1, rho, idxOf, rowIv, newI], ?_⟩
    · have : b' = 0 := by simpa using hb'
      subst this
      exact ⟨_, hg, ok2_inert (iB_inert _), rfl⟩
    · simp only [outOf, List.map_cons, List.map_nil]
      show [iB (i :: ids)] = [shBlk [0] hp.sz (((stOf 8 g [(4, rowIv (i :: ids) 0)] [iB (i :: ids)]).hp.get 0).getD .dead)]
      rw [hg]
      exact congrArg (fun z => [z]) (inert_shBlk (iB_inert _) [0] hp.sz).symm
noncomputable def G25 : HeapFn := padF (atRow (fun _ => True) g25)
theorem hkG25 : CallGoal Try.prog 25 G25 := pad_goal (atRow_goal fun vs hn _ => hk25 vs hn)
open Classical in
theorem G25_of {vs : List ViewV} {s : Value} {hp : Hp} (own : ViewV) (h : TN vs s hp) (hn : vs.length < 1000000) : G25 [s, hcA own] hp = some (rowIv (idsP (pr25 own) vs) hp.sz, heapOf [ownI (idsP (pr25 own) vs), .dead] hp) := by
  unfold G25
  refine pad_rowI ?_
  rw [atRow_of h hn trivial]
  show (if TN vs s hp then _ else _) = _
  rw [if_pos h]
  rfl
end Go.Proofs.Ytiogdklmhpllfaa.LtA
namespace Go.Proofs.Ytiogdklmhpllfaa.LtA
open Go Go.Proofs Go.Proofs.Ytiogdklmhpllfaa.AI Go.RowKit Go.Proofs.Ytiogdklmhpllfaa.Sort

noncomputable def E21 : Ext := extH Try.prog [(57, g57), (17, g17)]
noncomputable def c21 : CallF := aCall Try.prog E21 5
theorem c21_ok : CallOk Try.prog c21 := aCall_sound (by unfold E21; exact extH_ok (.cons hk57 (.cons hk17 .nil))) follows 5
noncomputable def fb21 : Code := (Try.f21.body).getD .skip
noncomputable def c21a : Code := sL fb21
noncomputable def c21b : Code := sL (sR fb21)
noncomputable def c21c : Code := sL (sR (sR fb21))
noncomputable def c21d : Code := sL (sL (sR (sR (sR fb21))))
noncomputable def c21e : Code := unL (unB (sR (sL (sR (sR (sR fb21))))))
noncomputable def c21f : Code := sR (sR (sR (sR fb21)))
noncomputable abbrev code21 : Code := .seq c21a (.seq c21b (.seq c21c (.seq (.seq c21d (.block 0 (.loop c21e))) c21f)))
theorem body21 : Try.f21.body = some code21 := by kernel_rfl
theorem ntmps21 : Try.f21.ntmps = 33 := by kernel_rfl
theorem s21 : codeSafe Try.prog 33 code21 = true := by kernel_rfl
theorem s21a : codeSafe Try.prog 33 c21a = true := by kernel_rfl
theorem s21b : codeSafe Try.prog 33 c21b = true := by kernel_rfl
theorem s21c : codeSafe Try.prog 33 c21c = true := by kernel_rfl
theorem s21d : codeSafe Try.prog 33 c21d = true := by kernel_rfl
theorem s21e : codeSafe Try.prog 33 c21e = true := by kernel_rfl
theorem s21f : codeSafe Try.prog 33 c21f = true := by kernel_rfl
theorem q21 (x : ViewV) (b : Bool) (g : Nat → Value) : retVal Try.prog Try.f21 (stOf 33 g [(2, pb 0 0), (3, .bool b)] [vB x]) = some (.tuple #[.agg ⟨vc x⟩, .bool b]) := by kernel_rfl
def toldV (x : ViewV) : Bool := told x.n x.t x.o x.r x.d x.i
section
variable (o : Blk) (n c i : Nat) (x y : ViewV) (b : Bool) (g : Nat → Value)
theorem r21a : (execE Try.prog c21 [] [] [] 10 c21a ⟨tmsOf [rowS 0 n c] 0 .leaf, heapOf [o, .dead] hp0, []⟩).map (fun z => (look2 1 [0, 2] [0, 2] (z.1, z.2.1), z.2.2)) =
    some ((.normal, [o, vB (zeroV 0)], [(0, rowS 0 n c), (2, pb 1 0)], true), [], [], []) := by kernel_rfl
theorem r21b : (execE Try.prog c21 [] [] [] 10 c21b (stOf 33 g [(0, rowS 0 n c), (2, pb 1 0)] [o, vB (zeroV 0)])).map (fun z => (look2 1 [0, 1, 3] [0, 2, 4] (z.1, z.2.1), z.2.2)) =
    some ((.normal, [o, vB (zeroV 0), vB (zeroV 0)], [(0, rowS 0 n c), (2, pb 1 0), (4, pb 2 0)], true), [], [], []) := by kernel_rfl
theorem r21c : (execE Try.prog c21 [] [] [] 10 c21c (stOf 33 g [(0, rowS 0 n c), (2, pb 1 0), (4, pb 2 0)] [o, vB (zeroV 0), vB (zeroV 0)])).map (fun z => (look2 1 [0, 1, 2] [0, 2, 4, 5] (z.1, z.2.1), z.2.2)) =
    some ((.normal, [o, vB (zeroV 0), vB (zeroV 0)], [(0, rowS 0 n c), (2, pb 1 0), (4, pb 2 0), (5, .bool false)], true), [], [], []) := by kernel_rfl
abbrev L21 (y : ViewV) (b : Bool) (i : Nat) (g : Nat → Value) : St := stOf 33 g [(2, pb 1 0), (4, pb 2 0), (5, .bool b), (9, rowS 0 n c), (10, iN n), (11, iN i)] [o, vB (zeroV 0), vB y]
theorem r21d : (execE Try.prog c21 [] [] [] 10 c21d (stOf 33 g [(0, rowS 0 n c), (2, pb 1 0), (4, pb 2 0), (5, .bool false)] [o, vB (zeroV 0), vB (zeroV 0)])).map (fun z => (look2 1 [0, 1, 2] [2, 4, 5, 9, 10, 11] (z.1, z.2.1), z.2.2)) =
    some ((.normal, [o, vB (zeroV 0), vB (zeroV 0)], [(2, pb 1 0), (4, pb 2 0), (5, .bool false), (9, rowS 0 n c), (10, iN n), (11, iN 0)], true), [], [], []) := by kernel_rfl
theorem r21x : (execE Try.prog c21 [(12, .bool false)] [] [] 20 c21e (L21 o n c y b i g)).map (fun z => (look2 0 [1, 2] [2, 4, 5] (z.1, z.2.1), z.2.2)) =
    some ((.exit 0, [vB (zeroV 0), vB y], [(2, pb 0 0), (4, pb 1 0), (5, .bool b)], true), [ltO i n false], [], []) := by kernel_rfl
noncomputable def o21 (l : List Obl) : List Obl := ltO i n true :: ixO 0 n c i :: ldO (heapOf ([o, vB (zeroV 0), vB y] ++ [.dead]) hp0).get 34 0 (i * 7) (.agg ⟨vc x⟩) :: l
def k21 : List (Tmp × Value) := [(12, .bool true), (13, pb 0 (i * 7)), (14, .agg ⟨vc x⟩), (30, iN (i + 1))]
noncomputable def toO (x : ViewV) (b : Bool) : Obl := (some (.bool (toldV x)), .bool b)
noncomputable def leV (x y : ViewV) (b : Bool) : Obl := (some (.bool (ltV x y)), .bool b)
theorem r21f : (execE Try.prog c21 (k21 i x ++ [(17, .bool false)]) [] [] 20 c21e (L21 o n c y b i g)).map (fun z => (look2 1 [0, 1, 2] [2, 4, 5, 9, 10, 11] (z.1, z.2.1), z.2.2)) =
    some ((.normal, [o, vB (zeroV 0), vB y], [(2, pb 1 0), (4, pb 2 0), (5, .bool b), (9, rowS 0 n c), (10, iN n), (11, iN (i + 1))], true), o21 o n c i x y [toO x false, nxt29 i], [], []) := by kernel_rfl
theorem r21g : (execE Try.prog c21 (k21 i x ++ [(17, .bool true)]) [] [] 20 c21e (L21 o n c y false i g)).map (fun z => (look2 1 [0, 1, 2] [2, 4, 5, 9, 10, 11] (z.1, z.2.1), z.2.2)) =
    some ((.normal, [o, vB (zeroV 0), vB x], [(2, pb 1 0), (4, pb 2 0), (5, .bool true), (9, rowS 0 n c), (10, iN n), (11, iN (i + 1))], true), o21 o n c i x y [toO x true, nxt29 i], [], []) := by kernel_rfl
theorem r21h : (execE Try.prog c21 (k21 i x ++ [(17, .bool true), (26, .bool true)]) [] [] 20 c21e (L21 o n c y true i g)).map (fun z => (look2 1 [0, 1, 2] [2, 4, 5, 9, 10, 11] (z.1, z.2.1), z.2.2)) =
    some ((.normal, [o, vB (zeroV 0), vB x], [(2, pb 1 0), (4, pb 2 0), (5, .bool true), (9, rowS 0 n c), (10, iN n), (11, iN (i + 1))], true), o21 o n c i x y [toO x true, leV x y true, nxt29 i], [], []) := by kernel_rfl
theorem r21i : (execE Try.prog c21 (k21 i x ++ [(17, .bool true), (26, .bool false)]) [] [] 20 c21e (L21 o n c y true i g)).map (fun z => (look2 1 [0, 1, 2] [2, 4, 5, 9, 10, 11] (z.1, z.2.1), z.2.2)) =
    some ((.normal, [o, vB (zeroV 0), vB y], [(2, pb 1 0), (4, pb 2 0), (5, .bool true), (9, rowS 0 n c), (10, iN n), (11, iN (i + 1))], true), o21 o n c i x y [toO x true, leV x y false, nxt29 i], [], []) := by kernel_rfl
theorem r21j : (execE Try.prog c21 [] [] [] 20 c21f (stOf 33 g [(2, pb 0 0), (4, pb 1 0), (5, .bool b)] [vB (zeroV 0), vB y])).map (fun z => (look2 0 [0] [2, 3] (z.1, z.2.1), z.2.2)) =
    some ((.ret, [vB y], [(2, pb 0 0), (3, .bool b)], true), [], [], []) := by kernel_rfl
theorem r21n : (execQ Try.prog c21 [] 40 code21 ⟨tmsOf [nilS] 0 .leaf, heapOf [.dead] hp0, []⟩).map (fun z => (look2 0 [1] [2, 3] (z.1, z.2.1), z.2.2)) = some ((.ret, [vB (zeroV 0)], [(2, pb 0 0), (3, .bool false)], true), []) := by kernel_rfl
end
def lowS (p : ViewV × Bool) (x : ViewV) : ViewV × Bool := bif toldV x && (!p.2 || ltV x p.1) then (x, true) else p
/-- The lowest one. -/
def lowV (vs : List ViewV) : ViewV × Bool := vs.foldl lowS (zeroV 0, false)
def EndsL (vs : List ViewV) (e : Exit) (st : St) : Prop := e = .ret ∧ ∃ g, st = stOf 33 g [(2, pb 0 0), (3, .bool (lowV vs).2)] [vB (lowV vs).1]
theorem low_fr (o : Blk) (ho : inertB o = true) (vs : List ViewV) (hn : vs.length < 1000000) (hrow : vs = [] ∨ ∃ ty ro, o = .cells ty (vrow vs) ro) (c : Nat) (W : Base) :
    FRwp Try.prog 33 W code21 ⟨tmsOf [rowS 0 vs.length c] 0 .leaf, heapOf [o, .dead] hp0, []⟩ (EndsL vs) := by
  refine FRwp.seq (Q1 := fun x st => x = .normal ∧ ∃ g, st = stOf 33 g [(0, rowS 0 vs.length c), (2, pb 1 0)] [o, vB (zeroV 0)]) (FRwp.pieceY c21_ok follows 1 _ _ _ _ (r21a o vs.length c) Met.nil MetH.nil MetE.nil s21a rfl rfl (fix11 ho _) fun g => ⟨rfl, g, rfl⟩) ?_ (fun x st hne hq => absurd hq.1 hne)
  rintro st ⟨-, g, rfl⟩
  refine FRwp.seq (Q1 := fun x st => x = .normal ∧ ∃ g, st = stOf 33 g [(0, rowS 0 vs.length c), (2, pb 1 0), (4, pb 2 0)] [o, vB (zeroV 0), vB (zeroV 0)]) (FRwp.pieceY c21_ok follows 1 _ _ _ _ (r21b o vs.length c g) Met.nil MetH.nil MetE.nil s21b rfl rfl (fix11 ho _) fun g => ⟨rfl, g, rfl⟩) ?_ (fun x st hne hq => absurd hq.1 hne)
  rintro st ⟨-, g, rfl⟩
  refine FRwp.seq (Q1 := fun x st => x = .normal ∧ ∃ g, st = stOf 33 g [(0, rowS 0 vs.length c), (2, pb 1 0), (4, pb 2 0), (5, .bool false)] [o, vB (zeroV 0), vB (zeroV 0)]) (FRwp.pieceY c21_ok follows 1 _ _ _ _ (r21c o vs.length c g) Met.nil MetH.nil MetE.nil s21c rfl rfl (fix11 ho _) fun g => ⟨rfl, g, rfl⟩) ?_ (fun x st hne hq => absurd hq.1 hne)
  rintro st ⟨-, g, rfl⟩
  refine FRwp.seq (Q1 := fun x st => x = .normal ∧ ∃ g, st = stOf 33 g [(2, pb 0 0), (4, pb 1 0), (5, .bool (lowV vs).2)] [vB (zeroV 0), vB (lowV vs).1]) ?_ ?_ (fun x st hne hq => absurd hq.1 hne)
  · refine FRwp.seq (Q1 := fun x st => x = .normal ∧ ∃ g, st = L21 o vs.length c (zeroV 0) false 0 g) (FRwp.pieceY c21_ok follows 1 _ _ _ _ (r21d o vs.length c g) Met.nil MetH.nil MetE.nil s21d rfl rfl (fix11 ho _) fun g => ⟨rfl, g, rfl⟩) ?_ (fun x st hne hq => absurd hq.1 hne)
    rintro st ⟨-, g, rfl⟩
    refine FRwp.block ?_
    refine FRwp.loop (fun k st => ∃ i y b g, i ≤ vs.length ∧ k = vs.length - i ∧ (vs.take i).foldl lowS (zeroV 0, false) = (y, b) ∧ st = L21 o vs.length c y b i g) ?_ (k := vs.length) ⟨0, _, _, g, Nat.zero_le _, rfl, rfl, rfl⟩
    rintro k st ⟨i, y, b, g, hi, hk, hf, rfl⟩
    cases h12 : decide (i < vs.length) with
    | false =>
      have hii : i = vs.length := by have := of_decide_eq_false h12; omega
      subst hii
      rw [List.take_length] at hf
      refine FRwp.pieceY c21_ok follows 0 _ _ _ _ (r21x o vs.length c vs.length y b g) (Met.cons (ltO_ok h12) Met.nil) MetH.nil MetE.nil s21e rfl rfl (noFix _) fun g' => .inr ⟨by simp, ?_⟩
      show (if (0 : Nat) = 0 then _ else _)
      rw [if_pos rfl]
      refine ⟨rfl, g', ?_⟩
      unfold lowV
      rw [hf]
    | true =>
      have hlt := of_decide_eq_true h12
      obtain ⟨x, hx⟩ := some_at hlt
      have hr : ∃ ty ro, o = .cells ty (vrow vs) ro := by
        rcases hrow with h | h
        · rw [h] at hlt; simp at hlt
        · exact h
      have hst := fold_step (f := lowS) (a := (zeroV 0, false)) hx
      rw [hf] at hst
      have hat : RowAt (heapOf ([o, vB (zeroV 0), vB y] ++ [.dead]) hp0) 0 vs := rowAt0 hr
      have met : ∀ {l : List Obl}, Met l → Met (o21 o vs.length c i x y l) := fun hl => Met.cons (ltO_ok h12) (Met.cons (ix_ok hlt) (Met.cons (at_ok hat hx) hl))
      have hnx : Met [nxt29 i] := Met.cons (wrap_up (by omega)) Met.nil
      have tob : ∀ {b : Bool}, toldV x = b → (toO x b).1 = some (toO x b).2 := fun h => by show some (Value.bool (toldV x)) = _; rw [h]; rfl
      have leb : ∀ {b : Bool}, ltV x y = b → (leV x y b).1 = some (leV x y b).2 := fun h => by show some (Value.bool (ltV x y)) = _; rw [h]; rfl
      have go : ∀ {y' : ViewV} {b' : Bool} {g' : Nat → Value}, lowS (y, b) x = (y', b') → ∃ k', k' < k ∧ ∃ j z d g, j ≤ vs.length ∧ k' = vs.length - j ∧ (vs.take j).foldl lowS (zeroV 0, false) = (z, d) ∧ L21 o vs.length c y' b' (i + 1) g' = L21 o vs.length c z d j g :=
        fun {y' b' g'} h => ⟨vs.length - (i + 1), by omega, i + 1, y', b', g', by omega, rfl, by rw [hst, h], rfl⟩
      cases h17 : toldV x with
      | false =>
        refine FRwp.pieceY c21_ok follows 1 _ _ _ _ (r21f o vs.length c i x y b g) (met (Met.cons (tob h17) hnx)) MetH.nil MetE.nil s21e rfl rfl (fix11 ho _) fun g' => .inl ⟨rfl, go ?_⟩
        unfold lowS; rw [h17]; rfl
      | true =>
        cases b with
        | false =>
          refine FRwp.pieceY c21_ok follows 1 _ _ _ _ (r21g o vs.length c i x y g) (met (Met.cons (tob h17) hnx)) MetH.nil MetE.nil s21e rfl rfl (fix11 ho _) fun g' => .inl ⟨rfl, go ?_⟩
          unfold lowS; rw [h17]; rfl
        | true =>
          cases h26 : ltV x y with
          | true =>
            refine FRwp.pieceY c21_ok follows 1 _ _ _ _ (r21h o vs.length c i x y g) (met (Met.cons (tob h17) (Met.cons (leb h26) hnx))) MetH.nil MetE.nil s21e rfl rfl (fix11 ho _) fun g' => .inl ⟨rfl, go ?_⟩
            unfold lowS; simp only [h17, h26]; rfl
          | false =>
            refine FRwp.pieceY c21_ok follows 1 _ _ _ _ (r21i o vs.length c i x y g) (met (Met.cons (tob h17) (Met.cons (leb h26) hnx))) MetH.nil MetE.nil s21e rfl rfl (fix11 ho _) fun g' => .inl ⟨rfl, go ?_⟩
            unfold lowS; simp only [h17, h26]; rfl
  · rintro st ⟨-, g, rfl⟩
    exact FRwp.pieceY c21_ok follows 0 _ _ _ _ (r21j (lowV vs).1 (lowV vs).2 g) Met.nil MetH.nil MetE.nil s21f rfl rfl (noFix _) fun g => ⟨rfl, g, rfl⟩
theorem low_nil (W : Base) : FRwp Try.prog 33 W code21 ⟨tmsOf [nilS] 0 .leaf, heapOf [.dead] hp0, []⟩ (EndsL []) :=
  FRwp.piece c21_ok follows 0 _ _ _ _ r21n Met.nil s21 rfl rfl rfl (noFix _) fun g => ⟨rfl, g, rfl⟩
def lowA (vs : List ViewV) : Value := .tuple #[.agg ⟨vc (lowV vs).1⟩, .bool (lowV vs).2]
open Classical in
noncomputable def g21 (vs : List ViewV) : HeapFn := fun args hp => match args with
  | [s] => if TN vs s hp then some (lowA vs, heapOf ([] ++ [.dead]) hp) else none
  | _ => none
theorem hk21 (vs : List ViewV) (hn : vs.length < 1000000) : CallGoal Try.prog 21 (g21 vs) := scan_goal follows Try.func21 body21 (by kernel_rfl) fun args hp v hp' h hk => by
  unfold g21 at h
  rw [ntmps21]
  split at h
  case h_2 => cases h
  rename_i s
  split at h
  case isFalse => cases h
  rename_i hT
  cases h
  have fin : ∀ {e : Exit} {st : St}, EndsL vs e st → (e = .normal ∨ e = .ret) ∧ st.df = [] ∧ ∃ v0, retVal Try.prog Try.f21 st = some v0 ∧ ok3 v0 = true ∧
      (∀ b ∈ ([] : List Nat), ∃ o, st.hp.get b = some o ∧ okBlk o = true ∧ rwB o = true) ∧ lowA vs = sh3 [] hp.sz v0 ∧ [] = outOf [] hp.sz st.hp := by
    rintro e st ⟨rfl, g, rfl⟩
    exact ⟨.inr rfl, rfl, _, q21 _ _ g, rfl, (fun b hb => by cases hb), by simp [sh3, sh2, sh1, lowA, vc], rfl⟩
  rcases hT with ⟨rfl, rfl⟩ | ⟨b, c, o, rfl, hb, hi, hr⟩
  · refine ⟨[], [], [], rfl, rfl, rfl, rfl, (fun b hb => by cases hb), rfl, (by simp), fun W => ?_⟩
    have e1 : [nilS].map (sh3 [] 0) = [nilS] := by simp [sh3, sh2, sh1, nilS]
    rw [e1]
    exact FRwp.mono (low_nil W) fun e st q => fin q
  · refine ⟨[b], [], [], rfl, rfl, rfl, rfl, fun b' hb' => ?_, rfl, (by simp), fun W => ?_⟩
    · have : b' = b := by simpa using hb'
      subst this
      exact ⟨o, hb, inert_start hi⟩
    · have e1 : [rowS b vs.length c].map (sh3 [b] 0) = [rowS 0 vs.length c] := by simp [sh3, sh2, sh1, rho, idxOf, rowS]
      rw [e1, start1 hb hi]
      exact FRwp.mono (low_fr (roBlk o) (ro_inert hi) vs hn (ro_row hr) c W) fun e st q => fin q
noncomputable def G21 : HeapFn := atRow (fun _ => True) g21
theorem hkG21 : CallGoal Try.prog 21 G21 := atRow_goal fun vs hn _ => hk21 vs hn
open Classical in
theorem G21_of {vs : List ViewV} {s : Value} {hp : Hp} (h : TN vs s hp) (hn : vs.length < 1000000) : G21 [s] hp = some (lowA vs, heapOf [.dead] hp) := by
  unfold G21
  rw [atRow_of h hn trivial]
  show (if TN vs s hp then _ else _) = _
  rw [if_pos h]; rfl
end Go.Proofs.Ytiogdklmhpllfaa.LtA
namespace Go.Proofs.Ytiogdklmhpllfaa.LtA
open Go Go.Proofs Go.Proofs.Ytiogdklmhpllfaa.AI Go.RowKit Go.Proofs.Ytiogdklmhpllfaa.Sort

noncomputable def ES7 : Ext := extG (extH Try.prog [(26, gAwake12), (15, g15), (17, g17)]) [(33, G33M), (18, G18), (24, G24), (25, G25), (21, G21)]
theorem ES7_ok : ExtOk Try.prog ES7 := extG_ok (extH_ok (.cons hkA12 (.cons hk15 (.cons hk17 .nil)))) (.cons hkG33M (.cons hkG18 (.cons hkG24 (.cons hkG25 (.cons hkG21 .nil)))))
noncomputable def cS7 : CallF := aCall Try.prog ES7 5
theorem cS7_ok : CallOk Try.prog cS7 := aCall_sound ES7_ok follows 5
noncomputable def cS7n : CallF := aCall Try.prog (extH Try.prog [(26, gAwake12), (15, g15), (17, g17)]) 60
theorem cS7n_ok : CallOk Try.prog cS7n := aCall_sound (extH_ok (.cons hkA12 (.cons hk15 (.cons hk17 .nil)))) follows 60
noncomputable def fb7 : Code := (Try.f7.body).getD .skip
noncomputable def p7 : Nat → Code
  | 0 => fb7
  | n + 1 => sR (p7 n)
noncomputable def c7a : Code := sL (p7 0)
noncomputable def c7b : Code := sL (p7 1)
noncomputable def c7c : Code := sL (p7 2)
noncomputable def c7d : Code := sL (p7 3)
noncomputable def c7e : Code := sL (p7 4)
noncomputable def c7f : Code := sL (p7 5)
noncomputable def c7g : Code := sL (sL (p7 6))
noncomputable def c7h : Code := unL (unB (sR (sL (p7 6))))
noncomputable def c7i : Code := sL (p7 7)
noncomputable def c7j : Code := sL (sL (p7 8))
noncomputable def c7k : Code := unL (unB (sR (sL (p7 8))))
noncomputable def c7l : Code := sL (sL (p7 9))
noncomputable def c7m : Code := unL (unB (sR (sL (p7 9))))
noncomputable def c7n : Code := sL (sL (p7 10))
noncomputable def c7o : Code := unL (unB (sR (sL (p7 10))))
noncomputable def c7p : Code := p7 11
noncomputable abbrev code7 : Code := .seq c7a (.seq c7b (.seq c7c (.seq c7d (.seq c7e (.seq c7f (.seq (.seq c7g (.block 0 (.loop c7h))) (.seq c7i (.seq (.seq c7j (.block 2 (.loop c7k))) (.seq (.seq c7l (.block 4 (.loop c7m))) (.seq (.seq c7n (.block 6 (.loop c7o))) c7p))))))))))
theorem body7 : Try.f7.body = some code7 := by kernel_rfl
theorem ntmps7 : Try.f7.ntmps = 183 := by kernel_rfl
theorem q7 (v : Value) (O : List Blk) (g : Nat → Value) : retVal Try.prog Try.f7 (stOf 183 g [(4, v)] O) = some v := by kernel_rfl
theorem s7 : codeSafe Try.prog 183 code7 = true := by kernel_rfl
theorem s7a : codeSafe Try.prog 183 c7a = true := by kernel_rfl
theorem s7b : codeSafe Try.prog 183 c7b = true := by kernel_rfl
theorem s7c : codeSafe Try.prog 183 c7c = true := by kernel_rfl
theorem s7d : codeSafe Try.prog 183 c7d = true := by kernel_rfl
theorem s7e : codeSafe Try.prog 183 c7e = true := by kernel_rfl
theorem s7f : codeSafe Try.prog 183 c7f = true := by kernel_rfl
theorem s7g : codeSafe Try.prog 183 c7g = true := by kernel_rfl
theorem s7h : codeSafe Try.prog 183 c7h = true := by kernel_rfl
theorem s7i : codeSafe Try.prog 183 c7i = true := by kernel_rfl
theorem s7j : codeSafe Try.prog 183 c7j = true := by kernel_rfl
theorem s7k : codeSafe Try.prog 183 c7k = true := by kernel_rfl
theorem s7l : codeSafe Try.prog 183 c7l = true := by kernel_rfl
theorem s7m : codeSafe Try.prog 183 c7m = true := by kernel_rfl
theorem s7n : codeSafe Try.prog 183 c7n = true := by kernel_rfl
theorem s7o : codeSafe Try.prog 183 c7o = true := by kernel_rfl
theorem s7p : codeSafe Try.prog 183 c7p = true := by kernel_rfl
/-- A row of ints, or nil. -/
def vI (f : Bool) (b k : Nat) : Value := bif f then newI b k else nilS
def kk (f : Bool) (k : Nat) : Nat := bif f then k else 0
noncomputable def ixI (b k i : Nat) : Obl := (fstV ((aIndexAddr Try.prog 31 (newI b k) (iN i)).map fun v => (v, none)), pb b i)
noncomputable def chO (own : ViewV) (b : Bool) : Obl := (some (.bool (chk own.n own.t own.o own.r own.d own.i != 0)), .bool b)
section
variable (o A B : Blk) (own x y u w : ViewV) (n c q i ka kb : Nat) (z x1 x2 : Int) (b lb fa fb : Bool) (g : Nat → Value)
theorem r7a : (execE Try.prog cS7 [] [] [] 10 c7a ⟨tmsOf [rowS 0 n c, hcA own] 0 .leaf, heapOf [o, .dead] hp0, []⟩).map (fun z => (look2 1 [0, 2] [0, 3] (z.1, z.2.1), z.2.2)) =
    some ((.normal, [o, hB own], [(0, rowS 0 n c), (3, pb 1 0)], true), [], [], []) := by kernel_rfl
def h7 (o : Blk) (own : ViewV) : Hp := heapOf ([o, hB own] ++ [.dead]) hp0
theorem r7b : (execE Try.prog cS7 [] [(28, gT x b, [.dead])] [] 10 c7b (stOf 183 g [(0, rowS 0 n c), (3, pb 1 0)] [o, hB own])).map (fun z => (look2 1 [0, 1] [0, 3, 6] (z.1, z.2.1), z.2.2)) =
    some ((.normal, [o, hB own], [(0, rowS 0 n c), (3, pb 1 0), (6, .bool b)], true), [], [(cS7 33 [rowS 0 n c, .int .i64 own.i] (h7 o own), (gT x b, heapOf [.dead] (h7 o own)))], []) := by kernel_rfl
abbrev C7 (b : Bool) (g : Nat → Value) : St := stOf 183 g [(0, rowS 0 n c), (3, pb 1 0), (6, .bool b)] [o, hB own]
noncomputable def hu (r : Bool) : Obl := (some (.bool (decide (Int.ofNat n > 100))), .bool r)
noncomputable def ezO (r : Bool) : Obl := (some (.bool (z != 0)), .bool r)
noncomputable def nuO (r : Bool) : Obl := (some (.bool own.n), .bool r)
noncomputable def ck7 : OblH := (cS7 18 [rowS 0 n c] (h7 o own), (.int .i64 z, heapOf [.dead] (h7 o own)))
theorem r7c1 : (execE Try.prog cS7 [(33, .bool true)] [] [] 20 c7c (C7 o own n c b g)).map (fun z => (look2 0 [] [4] (z.1, z.2.1), z.2.2)) = some ((.ret, [], [(4, .bool true)], true), [hu n true], [], []) := by kernel_rfl
theorem r7c2 : (execE Try.prog cS7 [(33, .bool false), (37, .bool true)] [(36, .int .i64 z, [.dead])] [] 20 c7c (C7 o own n c b g)).map (fun z => (look2 0 [] [4] (z.1, z.2.1), z.2.2)) = some ((.ret, [], [(4, .bool true)], true), [hu n false, ezO z true], [ck7 o own n c z], []) := by kernel_rfl
theorem r7c3 : (execE Try.prog cS7 [(33, .bool false), (37, .bool false), (42, .bool true)] [(36, .int .i64 z, [.dead])] [] 20 c7c (C7 o own n c b g)).map (fun z => (look2 0 [] [4] (z.1, z.2.1), z.2.2)) = some ((.ret, [], [(4, .bool true)], true), [hu n false, ezO z false, chO own true], [ck7 o own n c z], []) := by kernel_rfl
theorem r7c4 : (execE Try.prog cS7 [(33, .bool false), (37, .bool false), (42, .bool false), (46, .bool true)] [(36, .int .i64 z, [.dead])] [] 20 c7c (C7 o own n c b g)).map (fun z => (look2 0 [] [4] (z.1, z.2.1), z.2.2)) = some ((.ret, [], [(4, .bool true)], true), [hu n false, ezO z false, chO own false, nuO own true], [ck7 o own n c z], []) := by kernel_rfl
theorem r7c5 : (execE Try.prog cS7 [(33, .bool false), (37, .bool false), (42, .bool false), (46, .bool false)] [(36, .int .i64 z, [.dead])] [] 20 c7c (C7 o own n c true g)).map (fun z => (look2 0 [] [4] (z.1, z.2.1), z.2.2)) = some ((.ret, [], [(4, .bool true)], true), [hu n false, ezO z false, chO own false, nuO own false], [ck7 o own n c z], []) := by kernel_rfl
theorem r7c6 : (execE Try.prog cS7 [(33, .bool false), (37, .bool false), (42, .bool false), (46, .bool false)] [(36, .int .i64 z, [.dead])] [] 20 c7c (C7 o own n c false g)).map (fun z => (look2 1 [0, 1] [0, 3] (z.1, z.2.1), z.2.2)) =
    some ((.normal, [o, hB own], [(0, rowS 0 n c), (3, pb 1 0)], true), [hu n false, ezO z false, chO own false, nuO own false], [ck7 o own n c z], []) := by kernel_rfl
theorem r7d : (execE Try.prog cS7 [] [(54, vI fa 3 ka, [A, .dead])] [] 20 c7d (stOf 183 g [(0, rowS 0 n c), (3, pb 1 0)] [o, hB own])).map (fun z => (look2 2 [0, 3, 1] [0, 3, 7] (z.1, z.2.1), z.2.2)) =
    some ((.normal, [o, A, hB own], [(0, rowS 0 n c), (3, pb 2 0), (7, vI fa 1 ka)], true), [], [(cS7 24 [rowS 0 n c, hcA own] (h7 o own), (vI fa 3 ka, heapOf [A, .dead] (h7 o own)))], []) := by cases fa <;> kernel_rfl
def h7A (o A : Blk) (own : ViewV) : Hp := heapOf ([o, A, hB own] ++ [.dead]) hp0
theorem r7e : (execE Try.prog cS7 [] [(57, vI fb 4 kb, [B, .dead])] [] 20 c7e (stOf 183 g [(0, rowS 0 n c), (3, pb 2 0), (7, vI fa 1 ka)] [o, A, hB own])).map (fun z => (look2 3 [0, 1, 4, 2] [0, 3, 7, 8] (z.1, z.2.1), z.2.2)) =
    some ((.normal, [o, A, B, hB own], [(0, rowS 0 n c), (3, pb 3 0), (7, vI fa 1 ka), (8, vI fb 2 kb)], true), [], [(cS7 25 [rowS 0 n c, hcA own] (h7A o A own), (vI fb 4 kb, heapOf [B, .dead] (h7A o A own)))], []) := by cases fa <;> cases fb <;> kernel_rfl
theorem r7f : (execE Try.prog cS7 [] [] [] 20 c7f (stOf 183 g [(0, rowS 0 n c), (3, pb 3 0), (7, vI fa 1 ka), (8, vI fb 2 kb)] [o, A, B, hB own])).map (fun z => (look2 3 [0, 1, 2, 3] [0, 3, 7, 8, 9] (z.1, z.2.1), z.2.2)) =
    some ((.normal, [o, A, B, hB own], [(0, rowS 0 n c), (3, pb 3 0), (7, vI fa 1 ka), (8, vI fb 2 kb), (9, iN 0)], true), [], [], []) := by cases fa <;> cases fb <;> kernel_rfl
abbrev M7 (q : Nat) (g : Nat → Value) : St := stOf 183 g [(0, rowS 0 n c), (3, pb 3 0), (7, vI fa 1 ka), (8, vI fb 2 kb), (9, iN q)] [o, A, B, hB own]
abbrev H7 (q i : Nat) (g : Nat → Value) : St := stOf 183 g [(0, rowS 0 n c), (3, pb 3 0), (7, vI fa 1 ka), (8, vI fb 2 kb), (9, iN q), (10, iN i)] [o, A, B, hB own]
theorem r7g : (execE Try.prog cS7 [] [] [] 20 c7g (M7 o A B own n c ka kb fa fb q g)).map (fun z => (look2 3 [0, 1, 2, 3] [0, 3, 7, 8, 9, 10] (z.1, z.2.1), z.2.2)) =
    some ((.normal, [o, A, B, hB own], [(0, rowS 0 n c), (3, pb 3 0), (7, vI fa 1 ka), (8, vI fb 2 kb), (9, iN q), (10, iN 0)], true), [], [], []) := by cases fa <;> cases fb <;> kernel_rfl
theorem r7hx : (execE Try.prog cS7 [(61, .bool false)] [] [] 20 c7h (H7 o A B own n c ka kb fa fb q i g)).map (fun z => (look2 3 [0, 1, 2, 3] [0, 3, 7, 8, 9] (z.1, z.2.1), z.2.2)) =
    some ((.exit 0, [o, A, B, hB own], [(0, rowS 0 n c), (3, pb 3 0), (7, vI fa 1 ka), (8, vI fb 2 kb), (9, iN q)], true), [ltO i n false], [], []) := by cases fa <;> cases fb <;> kernel_rfl
def h7B (o A B : Blk) (own : ViewV) : Hp := heapOf ([o, A, B, hB own] ++ [.dead]) hp0
theorem r7ht : (execE Try.prog cS7 [(61, .bool true), (66, pb 0 (i * 7)), (69, .bool x.n), (70, .bool true), (72, iN (q + 1)), (63, iN (i + 1))] [] [] 20 c7h (H7 o A B own n c ka kb fa fb q i g)).map (fun z => (look2 3 [0, 1, 2, 3] [0, 3, 7, 8, 9, 10] (z.1, z.2.1), z.2.2)) =
    some ((.normal, [o, A, B, hB own], [(0, rowS 0 n c), (3, pb 3 0), (7, vI fa 1 ka), (8, vI fb 2 kb), (9, iN (q + 1)), (10, iN (i + 1))], true), [ltO i n true, ixO 0 n c i, ldO (h7B o A B own).get 4 0 (i * 7 + 1) (.bool x.n), (some (.bool (!x.n)), .bool true), nxt29 q, nxt29 i], [], []) := by cases fa <;> cases fb <;> kernel_rfl
theorem r7hf : (execE Try.prog cS7 [(61, .bool true), (66, pb 0 (i * 7)), (69, .bool x.n), (70, .bool false), (63, iN (i + 1))] [] [] 20 c7h (H7 o A B own n c ka kb fa fb q i g)).map (fun z => (look2 3 [0, 1, 2, 3] [0, 3, 7, 8, 9, 10] (z.1, z.2.1), z.2.2)) =
    some ((.normal, [o, A, B, hB own], [(0, rowS 0 n c), (3, pb 3 0), (7, vI fa 1 ka), (8, vI fb 2 kb), (9, iN q), (10, iN (i + 1))], true), [ltO i n true, ixO 0 n c i, ldO (h7B o A B own).get 4 0 (i * 7 + 1) (.bool x.n), (some (.bool (!x.n)), .bool false), nxt29 i], [], []) := by cases fa <;> cases fb <;> kernel_rfl
/-! Behind Lowest. -/
def lst7 (n c ka kb q : Nat) (fa fb lb : Bool) : List (Nat × Value) := [(0, rowS 0 n c), (3, pb 3 0), (7, vI fa 1 ka), (8, vI fb 2 kb), (9, iN q), (11, pb 4 0), (12, .bool lb)]
abbrev N7 (L : List (Nat × Value)) (g : Nat → Value) : St := stOf 183 g (lst7 n c ka kb q fa fb lb ++ L) [o, A, B, hB own, vB y]
theorem r7i : (execE Try.prog cS7 [] [(75, .tuple #[.agg ⟨vc y⟩, .bool lb], [.dead])] [] 20 c7i (M7 o A B own n c ka kb fa fb q g)).map (fun z => (look2 3 [0, 1, 2, 3, 6] [0, 3, 7, 8, 9, 11, 12] (z.1, z.2.1), z.2.2)) =
    some ((.normal, [o, A, B, hB own, vB y], lst7 n c ka kb q fa fb lb ++ [], true), [], [(cS7 21 [rowS 0 n c] (h7B o A B own), (.tuple #[.agg ⟨vc y⟩, .bool lb], heapOf [.dead] (h7B o A B own)))], []) := by cases fa <;> cases fb <;> kernel_rfl
def h7C (o A B : Blk) (own y : ViewV) : Hp := heapOf ([o, A, B, hB own, vB y] ++ [.dead]) hp0
theorem r7j : (execE Try.prog cS7 [] [] [] 20 c7j (N7 o A B own y n c q ka kb lb fa fb [] g)).map (fun z => (look2 3 [0, 1, 2, 3, 4] [0, 3, 7, 8, 9, 11, 12, 13] (z.1, z.2.1), z.2.2)) =
    some ((.normal, [o, A, B, hB own, vB y], lst7 n c ka kb q fa fb lb ++ [(13, iN 0)], true), [], [], []) := by cases fa <;> cases fb <;> kernel_rfl
theorem r7kx : (execE Try.prog cS7 [(79, iN (i + 1)), (82, .bool false)] [] [] 20 c7k (N7 o A B own y n c q ka kb lb fa fb [(13, iN i)] g)).map (fun z => (look2 3 [0, 1, 2, 3, 4] [0, 3, 7, 8, 9, 11, 12] (z.1, z.2.1), z.2.2)) =
    some ((.exit 2, [o, A, B, hB own, vB y], lst7 n c ka kb q fa fb lb ++ [], true), [nxt29 i, ltO (i + 1) (kk fa ka) false], [], []) := by cases fa <;> cases fb <;> kernel_rfl
theorem r7ks : (execE Try.prog cS7 [(79, iN (i + 1)), (82, .bool true), (89, pb 1 i), (90, .int .i64 x1), (98, iN (i + 1)), (99, pb 1 (i + 1)), (100, .int .i64 x2), (107, .bool false), (84, iN (i + 1))] [(91, gT u true, [.dead]), (101, gT w true, [.dead])] [] 20 c7k (N7 o A B own y n c q ka kb lb true fb [(13, iN i)] g)).map (fun z => (look2 3 [0, 1, 2, 3, 4] [0, 3, 7, 8, 9, 11, 12, 13] (z.1, z.2.1), z.2.2)) =
    some ((.normal, [o, A, B, hB own, vB y], lst7 n c ka kb q true fb lb ++ [(13, iN (i + 1))], true),
      [nxt29 i, ltO (i + 1) ka true, ixI 1 ka i, ldO (h7C o A B own y).get 3 1 i (.int .i64 x1), nxt29 i, ixI 1 ka (i + 1), ldO (hkG u (h7C o A B own y)).get 3 1 (i + 1) (.int .i64 x2), (some (.bool (!ltV u w)), .bool false), nxt29 i],
      [(cS7 33 [rowS 0 n c, .int .i64 x1] (h7C o A B own y), (gT u true, heapOf [.dead] (h7C o A B own y))), (cS7 33 [rowS 0 n c, .int .i64 x2] (hkG u (h7C o A B own y)), (gT w true, heapOf [.dead] (hkG u (h7C o A B own y))))], []) := by cases fb <;> kernel_rfl
theorem r7l : (execE Try.prog cS7 [] [] [] 20 c7l (N7 o A B own y n c q ka kb lb fa fb [] g)).map (fun z => (look2 3 [0, 1, 2, 3, 4] [0, 3, 7, 8, 9, 11, 12, 18] (z.1, z.2.1), z.2.2)) =
    some ((.normal, [o, A, B, hB own, vB y], lst7 n c ka kb q fa fb lb ++ [(18, iN 0)], true), [], [], []) := by cases fa <;> cases fb <;> kernel_rfl
theorem r7mx : (execE Try.prog cS7 [(111, .bool false)] [] [] 20 c7m (N7 o A B own y n c q ka kb lb fa fb [(18, iN i)] g)).map (fun z => (look2 3 [0, 1, 2, 3, 4] [0, 3, 7, 8, 9, 11, 12] (z.1, z.2.1), z.2.2)) =
    some ((.exit 4, [o, A, B, hB own, vB y], lst7 n c ka kb q fa fb lb ++ [], true), [ltO i (kk fb kb) false], [], []) := by cases fa <;> cases fb <;> kernel_rfl
theorem r7ms : (execE Try.prog cS7 [(111, .bool true), (118, pb 2 i), (119, .int .i64 x1), (129, .bool false), (113, iN (i + 1))] [(120, gT u true, [.dead])] [] 20 c7m (N7 o A B own y n c q ka kb lb fa true [(18, iN i)] g)).map (fun z => (look2 3 [0, 1, 2, 3, 4] [0, 3, 7, 8, 9, 11, 12, 18] (z.1, z.2.1), z.2.2)) =
    some ((.normal, [o, A, B, hB own, vB y], lst7 n c ka kb q fa true lb ++ [(18, iN (i + 1))], true),
      [ltO i kb true, ixI 2 kb i, ldO (h7C o A B own y).get 3 2 i (.int .i64 x1), (some (.bool (!ltV own u)), .bool false), nxt29 i],
      [(cS7 33 [rowS 0 n c, .int .i64 x1] (h7C o A B own y), (gT u true, heapOf [.dead] (h7C o A B own y)))], []) := by cases fa <;> kernel_rfl
theorem r7n : (execE Try.prog cS7 [] [] [] 20 c7n (N7 o A B own y n c q ka kb lb fa fb [] g)).map (fun z => (look2 3 [0, 1, 2, 3, 4] [0, 3, 7, 8, 9, 11, 12, 21] (z.1, z.2.1), z.2.2)) =
    some ((.normal, [o, A, B, hB own, vB y], lst7 n c ka kb q fa fb lb ++ [(21, iN 0)], true), [], [], []) := by cases fa <;> cases fb <;> kernel_rfl
theorem r7ox : (execE Try.prog cS7 [(134, .bool false)] [] [] 20 c7o (N7 o A B own y n c q ka kb lb fa fb [(21, iN i)] g)).map (fun z => (look2 3 [0, 1, 2, 3, 4] [0, 3, 7, 8, 9, 11, 12] (z.1, z.2.1), z.2.2)) =
    some ((.exit 6, [o, A, B, hB own, vB y], lst7 n c ka kb q fa fb lb ++ [], true), [ltO i (kk fa ka) false], [], []) := by cases fa <;> cases fb <;> kernel_rfl
theorem r7os : (execE Try.prog cS7 [(134, .bool true), (141, pb 1 i), (142, .int .i64 x1), (152, .bool false), (136, iN (i + 1))] [(143, gT u true, [.dead])] [] 20 c7o (N7 o A B own y n c q ka kb lb true fb [(21, iN i)] g)).map (fun z => (look2 3 [0, 1, 2, 3, 4] [0, 3, 7, 8, 9, 11, 12, 21] (z.1, z.2.1), z.2.2)) =
    some ((.normal, [o, A, B, hB own, vB y], lst7 n c ka kb q true fb lb ++ [(21, iN (i + 1))], true),
      [ltO i ka true, ixI 1 ka i, ldO (h7C o A B own y).get 3 1 i (.int .i64 x1), (some (.bool (!ltV u own)), .bool false), nxt29 i],
      [(cS7 33 [rowS 0 n c, .int .i64 x1] (h7C o A B own y), (gT u true, heapOf [.dead] (h7C o A B own y)))], []) := by cases fb <;> kernel_rfl
theorem r7pn (bz : Bool) : (execE Try.prog cS7 [(160, iN (kk false ka + kk fb kb)), (162, .bool true), (167, .bool bz), (168, .bool true)] [] [] 40 c7p (N7 o A B own y n c q ka kb lb false fb [] g)).map (fun z => (look2 0 [] [4] (z.1, z.2.1), z.2.2)) =
    some ((.ret, [], [(4, .bool true)], true), [adO (kk false ka) (kk fb kb), eqO (kk false ka + kk fb kb) q true, gtO q 0 bz, (some (.bool (lb == bz)), .bool true)], [], []) := by cases fb <;> kernel_rfl
theorem r7pr (bz : Bool) : (execE Try.prog cS7 [(160, iN (kk true ka + kk fb kb)), (162, .bool true), (167, .bool bz), (168, .bool true), (173, .bool false), (176, pb 1 0), (177, .int .i64 x1), (180, .bool true)] [] [] 40 c7p (N7 o A B own y n c q ka kb lb true fb [] g)).map (fun z => (look2 0 [] [4] (z.1, z.2.1), z.2.2)) =
    some ((.ret, [], [(4, .bool true)], true), [adO (kk true ka) (kk fb kb), eqO (kk true ka + kk fb kb) q true, gtO q 0 bz, (some (.bool (lb == bz)), .bool true), eqO ka 0 false, ixI 1 ka 0, ldO (h7C o A B own y).get 3 1 0 (.int .i64 x1), (some (.bool (x1 == y.id)), .bool true)], [], []) := by cases fb <;> kernel_rfl
end
/-! A nil row. -/
section
variable (own : ViewV)
theorem n7a : (execQ Try.prog cS7n [(42, .bool true)] 60 code7 ⟨tmsOf [nilS, hcA own] 0 .leaf, heapOf [.dead, .dead] hp0, []⟩).map (fun z => (look2 0 [] [4] (z.1, z.2.1), z.2.2)) = some ((.ret, [], [(4, .bool true)], true), [chO own true]) := by kernel_rfl
theorem n7b : (execQ Try.prog cS7n [(42, .bool false), (46, .bool true)] 60 code7 ⟨tmsOf [nilS, hcA own] 0 .leaf, heapOf [.dead, .dead] hp0, []⟩).map (fun z => (look2 0 [] [4] (z.1, z.2.1), z.2.2)) = some ((.ret, [], [(4, .bool true)], true), [chO own false, nuO own true]) := by kernel_rfl
theorem n7c : (execQ Try.prog cS7n [(42, .bool false), (46, .bool false)] 60 code7 ⟨tmsOf [nilS, hcA own] 0 .leaf, heapOf [.dead, .dead] hp0, []⟩).map (fun z => (look2 0 [] [4] (z.1, z.2.1), z.2.2)) = some ((.ret, [], [(4, .bool true)], true), [chO own false, nuO own false]) := by kernel_rfl
end
end Go.Proofs.Ytiogdklmhpllfaa.LtA
namespace Go.Proofs.Ytiogdklmhpllfaa.LtA
open Go Go.Proofs Go.Proofs.Ytiogdklmhpllfaa.AI Go.RowKit Go.Proofs.Ytiogdklmhpllfaa.Sort

theorem kn_iff {x : ViewV} : Kn x ↔ x.n = false ∧ okV x = true := by
  unfold Kn known okV
  cases x.n <;> simp
theorem right_facts {vs : List ViewV} (h : rightB vs = true) {x : ViewV} (hx : x ∈ vs) : x.i = x.id ∧ okV x = true := by
  have h1 := (right_iff.1 h).1 x hx
  rw [oneV_parts, Bool.and_eq_true, Bool.and_eq_true, Bool.and_eq_true] at h1
  exact ⟨by simpa using h1.2.2.1, h1.2.2.2⟩
theorem lt_total {u w : ViewV} (hu : Kn u) (hw : Kn w) (h : u.i ≠ w.i) : ltV u w = true ∨ ltV w u = true := by
  have : Lex u w ∨ Lex w u := by unfold Lex; omega
  rcases this with h | h
  · exact .inl ((ltV_lex hu hw).2 h)
  · exact .inr ((ltV_lex hw hu).2 h)
theorem lt_kn {u w : ViewV} (h : ltV u w = true) : Kn u ∧ Kn w := by
  unfold ltV less at h
  obtain ⟨h1, h2⟩ := Bool.and_eq_true_iff.1 h
  exact ⟨h1, (Bool.and_eq_true_iff.1 h2).1⟩
/-! ### No two with one id -/
def Nds (S : List ViewV) : Prop := S.Pairwise fun u v => u.id ≠ v.id
theorem nds_insB {S : List ViewV} {x : ViewV} (h : Nds S) (hx : ∀ z ∈ S, z.id ≠ x.id) : Nds (insB ltV S x) := by
  obtain ⟨P, Q, h1, h2, -, -⟩ := ins_eq ltV S x
  rw [h2]
  subst h1
  obtain ⟨a, b, c⟩ := List.pairwise_append.1 h
  refine List.pairwise_append.2 ⟨a, List.pairwise_cons.2 ⟨fun q hq e => hx q (by simp [hq]) e.symm, b⟩, fun p hp q hq => ?_⟩
  rcases List.mem_cons.1 hq with rfl | hq
  · exact hx p (by simp [hp])
  · exact c p hp q hq
theorem nds_mrg : ∀ {R L : List ViewV}, Nds L → Nds R → (∀ z ∈ L, ∀ y ∈ R, z.id ≠ y.id) → Nds (mrg ltV L R)
  | [], L, h, _, _ => h
  | r :: R, L, h1, h2, h3 => by
    have hr := List.pairwise_cons.1 h2
    refine nds_mrg (R := R) (L := insB ltV L r) (nds_insB h1 fun z hz => h3 z hz r (.head _)) hr.2 fun z hz y hy => ?_
    rcases mem_insB.1 hz with rfl | hz
    · exact hr.1 y hy
    · exact h3 z hz y (.tail _ hy)
theorem nds_ssort {S : List ViewV} (h : Nds S) : Nds (ssort ltV S) := nds_mrg (by unfold Nds; simp) h (fun z hz => by cases hz)
theorem up_nds {vs : List ViewV} (h : Up vs) : Nds vs := h.imp fun h => by omega
theorem filt_nds {vs : List ViewV} (h : Up vs) (p : ViewV → Bool) : Nds (vs.filter p) := (up_nds h).filter p
/-! ### What the ids are -/
theorem ids_get {p : ViewV → Bool} {vs : List ViewV} {i : Nat} {z : Int} (h : (idsP p vs)[i]? = some z) : ∃ u, (ssort ltV (vs.filter p))[i]? = some u ∧ u.id = z ∧ u ∈ vs ∧ p u = true := by
  unfold idsP at h
  rw [List.getElem?_map] at h
  obtain ⟨u, h1, h2⟩ := Option.map_eq_some_iff.1 h
  have hm := mem_ssort.1 (List.mem_of_getElem? h1)
  obtain ⟨m1, m2⟩ := List.mem_filter.1 hm
  exact ⟨u, h1, h2, m1, m2⟩
theorem getV_of {vs : List ViewV} {u : ViewV} (h : Up vs) (hu : u ∈ vs) : getV vs u.id = gT u true := by
  unfold getV
  rw [(find_mem h).2 ⟨hu, rfl⟩]; rfl
theorem idsP_len (p : ViewV → Bool) (vs : List ViewV) : (idsP p vs).length = (vs.filter p).length := by unfold idsP; rw [List.length_map, len_ssort]
/-- Next to one another, the first one is lower. -/
theorem ids_next {p : ViewV → Bool} {vs : List ViewV} (hr : rightB vs = true) (hk : ∀ x, p x = true → Kn x) {i : Nat} {u w : ViewV} (hu : (ssort ltV (vs.filter p))[i]? = some u) (hw : (ssort ltV (vs.filter p))[i + 1]? = some w) : ltV u w = true := by
  have hup := (right_iff.1 hr).2
  have hfk : ∀ z ∈ vs.filter p, Kn z := fun z hz => hk z (List.mem_filter.1 hz).2
  have mu := mem_ssort.1 (List.mem_of_getElem? hu)
  have mw := mem_ssort.1 (List.mem_of_getElem? hw)
  have hs := srt_get (srt_ssort sw hfk) (fun z hz => hfk z (mem_ssort.1 hz)) (Nat.le_succ i) hu hw
  have hnd := nds_ssort (filt_nds hup p)
  have hid : u.id ≠ w.id := by
    obtain ⟨hi, rfl⟩ := List.getElem?_eq_some_iff.1 hu
    obtain ⟨hj, rfl⟩ := List.getElem?_eq_some_iff.1 hw
    exact List.pairwise_iff_getElem.1 hnd i (i + 1) hi hj (by omega)
  have hii : u.i ≠ w.i := by
    rw [(right_facts hr (List.mem_filter.1 mu).1).1, (right_facts hr (List.mem_filter.1 mw).1).1]; exact hid
  rcases lt_total (hfk u mu) (hfk w mw) hii with h | h
  · exact h
  · rw [h] at hs; cases hs
theorem count3 {p q r : ViewV → Bool} : ∀ {vs : List ViewV}, (∀ x ∈ vs, (p x && q x) = false ∧ (p x || q x) = r x) → (vs.filter p).length + (vs.filter q).length = (vs.filter r).length
  | [], _ => rfl
  | v :: vs, h => by
    have ih := count3 (vs := vs) fun x hx => h x (.tail _ hx)
    obtain ⟨h1, h2⟩ := h v (.head _)
    cases hp : p v <;> cases hq : q v
    · rw [hp, hq] at h2
      rw [List.filter_cons_of_neg (by rw [hp]; simp), List.filter_cons_of_neg (by rw [hq]; simp), List.filter_cons_of_neg (by rw [← h2]; simp)]
      exact ih
    · rw [hp, hq] at h2
      rw [List.filter_cons_of_neg (by rw [hp]; simp), List.filter_cons_of_pos hq, List.filter_cons_of_pos (by rw [← h2]; rfl)]
      simp only [List.length_cons]; omega
    · rw [hp, hq] at h2
      rw [List.filter_cons_of_pos hp, List.filter_cons_of_neg (by rw [hq]; simp), List.filter_cons_of_pos (by rw [← h2]; rfl)]
      simp only [List.length_cons]; omega
    · rw [hp, hq] at h1; cases h1
def nn (x : ViewV) : Bool := !x.n
theorem split_count {vs : List ViewV} {own : ViewV} (hr : rightB vs = true) (ho : Kn own) (hno : ∀ x ∈ vs, x.id ≠ own.i) : (idsP (pr24 own) vs).length + (idsP (pr25 own) vs).length = (vs.filter nn).length := by
  rw [idsP_len, idsP_len]
  refine count3 fun x hx => ?_
  obtain ⟨h1, h2⟩ := right_facts hr hx
  unfold pr24 pr25 nn
  cases hn : x.n with
  | true =>
    have nk : ¬ Kn x := fun h => by have := (kn_iff.1 h).1; rw [hn] at this; cases this
    have e1 : ltV x own = false := by
      cases e : ltV x own with
      | false => rfl
      | true => exact absurd (lt_kn e).1 nk
    have e2 : ltV own x = false := by
      cases e : ltV own x with
      | false => rfl
      | true => exact absurd (lt_kn e).2 nk
    rw [e1, e2]; exact ⟨rfl, rfl⟩
  | false =>
    have hk : Kn x := kn_iff.2 ⟨hn, h2⟩
    rcases lt_total hk ho (by rw [h1]; exact hno x hx) with h | h
    · rw [h, sw.asym _ _ hk ho h]; exact ⟨rfl, rfl⟩
    · rw [h, sw.asym _ _ ho hk h]; exact ⟨rfl, rfl⟩
/-! ### The lowest one -/
def LowOk (P : List ViewV) (p : ViewV × Bool) : Prop := (p.2 = true → p.1 ∈ P ∧ Kn p.1 ∧ ∀ x ∈ P, Kn x → ltV x p.1 = false) ∧ (p.2 = false → ∀ x ∈ P, ¬ Kn x)
theorem toldV_kn {x : ViewV} : toldV x = true ↔ Kn x := Iff.rfl
theorem low_step {P : List ViewV} {p : ViewV × Bool} (h : LowOk P p) (x : ViewV) : LowOk (P ++ [x]) (lowS p x) := by
  obtain ⟨y, b⟩ := p
  obtain ⟨h1, h2⟩ := h
  unfold lowS
  have inl : ∀ {z}, z ∈ P → z ∈ P ++ [x] := fun h => by simp [h]
  have mem : ∀ {z}, z ∈ P ++ [x] → z ∈ P ∨ z = x := fun h => by simpa using h
  cases ht : toldV x with
  | false =>
    have nk : ¬ Kn x := fun h => by rw [toldV_kn.2 h] at ht; cases ht
    refine ⟨fun hb => ?_, fun hb z hz => ?_⟩
    · obtain ⟨a1, a2, a3⟩ := h1 hb
      exact ⟨inl a1, a2, fun z hz hk => by
        rcases mem hz with hz | rfl
        · exact a3 z hz hk
        · exact absurd hk nk⟩
    · rcases mem hz with hz | rfl
      · exact h2 hb z hz
      · exact nk
  | true =>
    have hk := toldV_kn.1 ht
    cases b with
    | false =>
      show LowOk _ (x, true)
      exact ⟨fun _ => ⟨by simp, hk, fun z hz hkz => by
        rcases mem hz with hz | rfl
        · exact absurd hkz (h2 rfl z hz)
        · exact sw.irr hk⟩, fun h => by cases h⟩
    | true =>
      obtain ⟨a1, a2, a3⟩ := h1 rfl
      cases hl : ltV x y with
      | true =>
        show LowOk _ (x, true)
        exact ⟨fun _ => ⟨by simp, hk, fun z hz hkz => by
          rcases mem hz with hz | rfl
          · cases e : ltV z x with
            | false => rfl
            | true => rw [← a3 z hz hkz]; exact (sw.trans hkz hk a2 e hl).symm
          · exact sw.irr hk⟩, fun h => by cases h⟩
      | false =>
        show LowOk _ (y, true)
        exact ⟨fun _ => ⟨inl a1, a2, fun z hz hkz => by
          rcases mem hz with hz | rfl
          · exact a3 z hz hkz
          · exact hl⟩, fun h => by cases h⟩
theorem low_fold : ∀ {R P : List ViewV} {p : ViewV × Bool}, LowOk P p → LowOk (P ++ R) (R.foldl lowS p)
  | [], P, p, h => by rw [List.append_nil]; exact h
  | r :: R, P, p, h => by
    have := low_fold (R := R) (low_step h r)
    rw [List.append_assoc] at this
    exact this
theorem low_ok (vs : List ViewV) : LowOk vs (lowV vs) := by
  have := low_fold (R := vs) (P := []) (p := (zeroV 0, false)) ⟨(fun h => by cases h), (fun _ x hx => by cases hx)⟩
  exact this
theorem low_pos {vs : List ViewV} (hr : rightB vs = true) : (lowV vs).2 = decide (0 < (vs.filter nn).length) := by
  obtain ⟨h1, h2⟩ := low_ok vs
  cases hb : (lowV vs).2 with
  | true =>
    obtain ⟨a1, a2, -⟩ := h1 hb
    refine (decide_eq_true (List.length_pos_of_mem (a := (lowV vs).1) (List.mem_filter.2 ⟨a1, ?_⟩))).symm
    unfold nn; rw [(kn_iff.1 a2).1]; rfl
  | false =>
    refine (decide_eq_false fun h => ?_).symm
    obtain ⟨x, hx⟩ := List.exists_mem_of_length_pos h
    obtain ⟨m1, m2⟩ := List.mem_filter.1 hx
    exact h2 hb x m1 (kn_iff.2 ⟨by unfold nn at m2; simpa using m2, (right_facts hr m1).2⟩)
/-- The first one below is the lowest one. -/
theorem low_first {vs : List ViewV} {own : ViewV} (hr : rightB vs = true) (ho : Kn own) {z : Int} (h : (idsP (pr24 own) vs)[0]? = some z) : z = (lowV vs).1.id := by
  obtain ⟨u, h1, rfl, m1, m2⟩ := ids_get h
  have hku : Kn u := (lt_kn m2).1
  obtain ⟨l1, l2⟩ := low_ok vs
  have hb : (lowV vs).2 = true := by
    cases e : (lowV vs).2 with
    | true => rfl
    | false => exact absurd hku (l2 e u m1)
  obtain ⟨a1, a2, a3⟩ := l1 hb
  generalize (lowV vs).1 = y at *
  rcases Decidable.em (u.id = y.id) with he | he
  · exact he
  · have hii : u.i ≠ y.i := by rw [(right_facts hr m1).1, (right_facts hr a1).1]; exact he
    have h3 := a3 u m1 hku
    rcases lt_total hku a2 hii with q | q
    · rw [q] at h3; cases h3
    · have hyo : ltV y own = true := sw.trans a2 hku ho q m2
      have hfk : ∀ z ∈ vs.filter (pr24 own), Kn z := fun z hz => (lt_kn (List.mem_filter.1 hz).2).1
      have hm : y ∈ ssort ltV (vs.filter (pr24 own)) := mem_ssort.2 (List.mem_filter.2 ⟨a1, hyo⟩)
      obtain ⟨j, hj⟩ := List.mem_iff_getElem?.1 hm
      have := srt_get (srt_ssort sw hfk) (fun z hz => hfk z (mem_ssort.1 hz)) (Nat.zero_le j) h1 hj
      rw [q] at this; cases this
end Go.Proofs.Ytiogdklmhpllfaa.LtA
namespace Go.Proofs.Ytiogdklmhpllfaa.LtA
open Go Go.Proofs Go.Proofs.Ytiogdklmhpllfaa.AI Go.RowKit Go.Proofs.Ytiogdklmhpllfaa.Sort

section
variable {hp : Hp}
theorem cS7_33 (args : List Value) : cS7 33 args hp = G33M args hp := by
  show aCall Try.prog ES7 5 33 _ _ = _
  rw [aCall]; rfl
theorem cS7_18 (args : List Value) : cS7 18 args hp = G18 args hp := by
  show aCall Try.prog ES7 5 18 _ _ = _
  rw [aCall]; rfl
theorem cS7_24 (args : List Value) : cS7 24 args hp = G24 args hp := by
  show aCall Try.prog ES7 5 24 _ _ = _
  rw [aCall]; rfl
theorem cS7_25 (args : List Value) : cS7 25 args hp = G25 args hp := by
  show aCall Try.prog ES7 5 25 _ _ = _
  rw [aCall]; rfl
theorem cS7_21 (args : List Value) : cS7 21 args hp = G21 args hp := by
  show aCall Try.prog ES7 5 21 _ _ = _
  rw [aCall]; rfl
end
theorem ixI_ok {b k i : Nat} (h : i < k) : (ixI b k i).1 = some (ixI b k i).2 := by
  have h1 : (0 : Int) ≤ Int.ofNat i ∧ Int.ofNat i < (k : Int) := ⟨Int.natCast_nonneg i, by simpa using h⟩
  show fstV ((aIndexAddr Try.prog 31 (newI b k) (iN i)).map fun v => (v, none)) = some (pb b i)
  simp only [aIndexAddr, newI, iN, underlying31, size3]
  rw [if_pos h1]
  simp [fstV, pb]
theorem ldI_ok {h : Hp} {b i : Nat} {ids : List Int} {z : Int} (hb : h.get b = some (iB ids)) (hz : ids[i]? = some z) : (ldO h.get 3 b i (.int .i64 z)).1 = some (ldO h.get 3 b i (.int .i64 z)).2 := by
  show aLoad Try.prog h.get 3 (pb b i) = some (.int .i64 z)
  unfold iB at hb
  unfold pb
  simp only [aLoad, hb, agg3, size3]
  rw [List.getElem?_map, hz]; rfl
theorem ownI_inert (ids : List Int) : inertB (ownI ids) = true := by
  cases ids with
  | nil => rfl
  | cons => exact iB_inert _
theorem fixT {o A B : Blk} (ho : inertB o = true) (jA : inertB A = true) (jB : inertB B = true) : ∀ r : List Blk, ∀ i, i < 3 → ∀ o', (o :: A :: B :: r)[i]? = some o' → Fixed 0 o' := by
  intro r i hi o' h
  match i, hi with
  | 0, _ => simp at h; subst h; exact inert_fixed ho 0
  | 1, _ => simp at h; subst h; exact inert_fixed jA 0
  | 2, _ => simp at h; subst h; exact inert_fixed jB 0
def Ends7 (e : Exit) (st : St) : Prop := e = .ret ∧ ∃ g, st = stOf 183 g [(4, .bool true)] []
theorem hu_ok {n : Nat} {r : Bool} (h : decide (100 < n) = r) : (hu n r).1 = some (hu n r).2 := by
  show some (Value.bool (decide (Int.ofNat n > 100))) = some (.bool r)
  rw [← h, show decide (Int.ofNat n > 100) = decide (100 < n) from decide_eq_decide.2 (by simp only [Int.ofNat_eq_natCast]; omega)]
theorem bool_ok {a b : Bool} (h : a = b) : (some (Value.bool a)) = some (.bool b) := by rw [h]
section
variable {o A B : Blk} {own y : ViewV} {c q : Nat} {lb fa fb : Bool} {vs : List ViewV} {ia ib : List Int}
/-- The second loop: the ids below rise. -/
theorem loop2_fr (ho : inertB o = true) (jA : inertB A = true) (jB : inertB B = true) (hn : vs.length ≤ 100) (hrow : vs = [] ∨ ∃ ty ro, o = .cells ty (vrow vs) ro) (hr : rightB vs = true) (hia : ia = idsP (pr24 own) vs) (hfa : fa = !ia.isEmpty) (hAe : A = ownI ia) (W : Base) (g : Nat → Value) :
    FRwp Try.prog 183 W (.seq c7j (.block 2 (.loop c7k))) (N7 o A B own y vs.length c q ia.length ib.length lb fa fb [] g) (fun e st => e = .normal ∧ ∃ g, st = N7 o A B own y vs.length c q ia.length ib.length lb fa fb [] g) := by
  have hup := (right_iff.1 hr).2
  have hkk : kk fa ia.length = ia.length := by subst hfa; cases ia <;> rfl
  have hl : ia.length ≤ vs.length := by rw [hia, idsP_len]; exact List.length_filter_le _ _
  refine FRwp.seq (Q1 := fun e st => e = .normal ∧ ∃ g, st = N7 o A B own y vs.length c q ia.length ib.length lb fa fb [(13, iN 0)] g) (FRwp.pieceY cS7_ok follows 3 _ _ _ _ (r7j o A B own y vs.length c q ia.length ib.length lb fa fb g) Met.nil MetH.nil MetE.nil s7j rfl rfl (fixT ho jA jB _) fun g => ⟨rfl, g, rfl⟩) ?_ (fun x st hne hq => absurd hq.1 hne)
  rintro st ⟨-, g, rfl⟩
  refine FRwp.block ?_
  refine FRwp.loop (fun k st => ∃ i g, i ≤ ia.length ∧ k = ia.length - i ∧ st = N7 o A B own y vs.length c q ia.length ib.length lb fa fb [(13, iN i)] g) ?_ (k := ia.length) ⟨0, g, Nat.zero_le _, rfl, rfl⟩
  rintro k st ⟨i, g, hi, rfl, rfl⟩
  cases h82 : decide (i + 1 < ia.length) with
  | false =>
    refine FRwp.pieceY cS7_ok follows 3 _ _ _ _ (r7kx o A B own y vs.length c q i ia.length ib.length lb fa fb g) (Met.cons (wrap_up (by omega)) (Met.cons (ltO_ok (by rw [hkk]; exact h82)) Met.nil)) MetH.nil MetE.nil s7k rfl rfl (fixT ho jA jB _) fun g' => .inr ⟨by simp, ?_⟩
    show (if (2 : Nat) = 2 then _ else _)
    rw [if_pos rfl]
    exact ⟨rfl, g', rfl⟩
  | true =>
    have hlt := of_decide_eq_true h82
    have hft : fa = true := by subst hfa; cases ia with
      | nil => simp at hlt
      | cons => rfl
    subst hft
    have hAi : A = iB ia := by rw [hAe]; cases ia with
      | nil => simp at hlt
      | cons => rfl
    obtain ⟨x1, e1⟩ : ∃ x1, ia[i]? = some x1 := ⟨_, List.getElem?_eq_getElem (by omega)⟩
    obtain ⟨x2, e2⟩ : ∃ x2, ia[i + 1]? = some x2 := ⟨_, List.getElem?_eq_getElem hlt⟩
    obtain ⟨u, su, rfl, mu, pu⟩ := ids_get (by rw [← hia]; exact e1)
    obtain ⟨w, sw', rfl, mw, pw⟩ := ids_get (by rw [← hia]; exact e2)
    have hlw : ltV u w = true := ids_next hr (fun x hx => (lt_kn hx).1) su sw'
    have T : TN vs (rowS 0 vs.length c) (h7C o A B own y) := .inr ⟨0, c, o, rfl, by unfold h7C; rw [heapOf0_get]; rfl, ho, hrow⟩
    have kC : (h7C o A B own y).ok := heapOf_ok _ _ hp0_ok
    have gA : (h7C o A B own y).get 1 = some (iB ia) := by unfold h7C; rw [heapOf0_get, hAi]; rfl
    have a1 : cS7 33 [rowS 0 vs.length c, .int .i64 u.id] (h7C o A B own y) = some (gT u true, heapOf [.dead] (h7C o A B own y)) := by rw [cS7_33, G33M_of T.tq (by omega), getV_of hup mu]
    have a2 : cS7 33 [rowS 0 vs.length c, .int .i64 w.id] (hkG u (h7C o A B own y)) = some (gT w true, heapOf [.dead] (hkG u (h7C o A B own y))) := by
      have T2 : TN vs (rowS 0 vs.length c) (hkG u (h7C o A B own y)) := T.ext kC _
      rw [cS7_33, G33M_of T2.tq (by omega), getV_of hup mw]
    refine FRwp.pieceY cS7_ok follows 3 _ _ _ _ (r7ks o A B own y u w vs.length c q i ia.length ib.length u.id w.id lb fb g)
      (Met.cons (wrap_up (by omega)) (Met.cons (ltO_ok h82) (Met.cons (ixI_ok (by omega)) (Met.cons (ldI_ok gA e1) (Met.cons (wrap_up (by omega)) (Met.cons (ixI_ok hlt) (Met.cons (ldI_ok (get_old kC gA) e2) (Met.cons (bool_ok (by rw [hlw]; rfl)) (Met.cons (wrap_up (by omega)) Met.nil)))))))))
      (MetH.cons a1 (MetH.cons a2 MetH.nil)) MetE.nil s7k rfl rfl (fixT ho jA jB _) fun g' => .inl ⟨rfl, ia.length - (i + 1), by omega, i + 1, g', by omega, rfl, rfl⟩
theorem loop4_fr (ho : inertB o = true) (jA : inertB A = true) (jB : inertB B = true) (hn : vs.length ≤ 100) (hrow : vs = [] ∨ ∃ ty ro, o = .cells ty (vrow vs) ro) (hr : rightB vs = true) (hib : ib = idsP (pr25 own) vs) (hfb : fb = !ib.isEmpty) (hBe : B = ownI ib) (W : Base) (g : Nat → Value) :
    FRwp Try.prog 183 W (.seq c7l (.block 4 (.loop c7m))) (N7 o A B own y vs.length c q ia.length ib.length lb fa fb [] g) (fun e st => e = .normal ∧ ∃ g, st = N7 o A B own y vs.length c q ia.length ib.length lb fa fb [] g) := by
  have hup := (right_iff.1 hr).2
  have hkk : kk fb ib.length = ib.length := by subst hfb; cases ib <;> rfl
  have hl : ib.length ≤ vs.length := by rw [hib, idsP_len]; exact List.length_filter_le _ _
  refine FRwp.seq (Q1 := fun e st => e = .normal ∧ ∃ g, st = N7 o A B own y vs.length c q ia.length ib.length lb fa fb [(18, iN 0)] g) (FRwp.pieceY cS7_ok follows 3 _ _ _ _ (r7l o A B own y vs.length c q ia.length ib.length lb fa fb g) Met.nil MetH.nil MetE.nil s7l rfl rfl (fixT ho jA jB _) fun g => ⟨rfl, g, rfl⟩) ?_ (fun x st hne hq => absurd hq.1 hne)
  rintro st ⟨-, g, rfl⟩
  refine FRwp.block ?_
  refine FRwp.loop (fun k st => ∃ i g, i ≤ ib.length ∧ k = ib.length - i ∧ st = N7 o A B own y vs.length c q ia.length ib.length lb fa fb [(18, iN i)] g) ?_ (k := ib.length) ⟨0, g, Nat.zero_le _, rfl, rfl⟩
  rintro k st ⟨i, g, hi, rfl, rfl⟩
  cases h111 : decide (i < ib.length) with
  | false =>
    refine FRwp.pieceY cS7_ok follows 3 _ _ _ _ (r7mx o A B own y vs.length c q i ia.length ib.length lb fa fb g) (Met.cons (ltO_ok (by rw [hkk]; exact h111)) Met.nil) MetH.nil MetE.nil s7m rfl rfl (fixT ho jA jB _) fun g' => .inr ⟨by simp, ?_⟩
    show (if (4 : Nat) = 4 then _ else _)
    rw [if_pos rfl]
    exact ⟨rfl, g', rfl⟩
  | true =>
    have hlt := of_decide_eq_true h111
    have hft : fb = true := by subst hfb; cases ib with
      | nil => simp at hlt
      | cons => rfl
    subst hft
    have hBi : B = iB ib := by rw [hBe]; cases ib with
      | nil => simp at hlt
      | cons => rfl
    obtain ⟨x1, e1⟩ : ∃ x1, ib[i]? = some x1 := ⟨_, List.getElem?_eq_getElem hlt⟩
    obtain ⟨u, su, rfl, mu, pu⟩ := ids_get (by rw [← hib]; exact e1)
    have hlw : ltV own u = true := pu
    have T : TN vs (rowS 0 vs.length c) (h7C o A B own y) := .inr ⟨0, c, o, rfl, by unfold h7C; rw [heapOf0_get]; rfl, ho, hrow⟩
    have gB : (h7C o A B own y).get 2 = some (iB ib) := by unfold h7C; rw [heapOf0_get, hBi]; rfl
    have a1 : cS7 33 [rowS 0 vs.length c, .int .i64 u.id] (h7C o A B own y) = some (gT u true, heapOf [.dead] (h7C o A B own y)) := by rw [cS7_33, G33M_of T.tq (by omega), getV_of hup mu]
    refine FRwp.pieceY cS7_ok follows 3 _ _ _ _ (r7ms o A B own y u vs.length c q i ia.length ib.length u.id lb fa g)
      (Met.cons (ltO_ok h111) (Met.cons (ixI_ok hlt) (Met.cons (ldI_ok gB e1) (Met.cons (bool_ok (by rw [hlw]; rfl)) (Met.cons (wrap_up (by omega)) Met.nil)))))
      (MetH.cons a1 MetH.nil) MetE.nil s7m rfl rfl (fixT ho jA jB _) fun g' => .inl ⟨rfl, ib.length - (i + 1), by omega, i + 1, g', by omega, rfl, rfl⟩
theorem loop6_fr (ho : inertB o = true) (jA : inertB A = true) (jB : inertB B = true) (hn : vs.length ≤ 100) (hrow : vs = [] ∨ ∃ ty ro, o = .cells ty (vrow vs) ro) (hr : rightB vs = true) (hia : ia = idsP (pr24 own) vs) (hfa : fa = !ia.isEmpty) (hAe : A = ownI ia) (W : Base) (g : Nat → Value) :
    FRwp Try.prog 183 W (.seq c7n (.block 6 (.loop c7o))) (N7 o A B own y vs.length c q ia.length ib.length lb fa fb [] g) (fun e st => e = .normal ∧ ∃ g, st = N7 o A B own y vs.length c q ia.length ib.length lb fa fb [] g) := by
  have hup := (right_iff.1 hr).2
  have hkk : kk fa ia.length = ia.length := by subst hfa; cases ia <;> rfl
  have hl : ia.length ≤ vs.length := by rw [hia, idsP_len]; exact List.length_filter_le _ _
  refine FRwp.seq (Q1 := fun e st => e = .normal ∧ ∃ g, st = N7 o A B own y vs.length c q ia.length ib.length lb fa fb [(21, iN 0)] g) (FRwp.pieceY cS7_ok follows 3 _ _ _ _ (r7n o A B own y vs.length c q ia.length ib.length lb fa fb g) Met.nil MetH.nil MetE.nil s7n rfl rfl (fixT ho jA jB _) fun g => ⟨rfl, g, rfl⟩) ?_ (fun x st hne hq => absurd hq.1 hne)
  rintro st ⟨-, g, rfl⟩
  refine FRwp.block ?_
  refine FRwp.loop (fun k st => ∃ i g, i ≤ ia.length ∧ k = ia.length - i ∧ st = N7 o A B own y vs.length c q ia.length ib.length lb fa fb [(21, iN i)] g) ?_ (k := ia.length) ⟨0, g, Nat.zero_le _, rfl, rfl⟩
  rintro k st ⟨i, g, hi, rfl, rfl⟩
  cases h134 : decide (i < ia.length) with
  | false =>
    refine FRwp.pieceY cS7_ok follows 3 _ _ _ _ (r7ox o A B own y vs.length c q i ia.length ib.length lb fa fb g) (Met.cons (ltO_ok (by rw [hkk]; exact h134)) Met.nil) MetH.nil MetE.nil s7o rfl rfl (fixT ho jA jB _) fun g' => .inr ⟨by simp, ?_⟩
    show (if (6 : Nat) = 6 then _ else _)
    rw [if_pos rfl]
    exact ⟨rfl, g', rfl⟩
  | true =>
    have hlt := of_decide_eq_true h134
    have hft : fa = true := by subst hfa; cases ia with
      | nil => simp at hlt
      | cons => rfl
    subst hft
    have hAi : A = iB ia := by rw [hAe]; cases ia with
      | nil => simp at hlt
      | cons => rfl
    obtain ⟨x1, e1⟩ : ∃ x1, ia[i]? = some x1 := ⟨_, List.getElem?_eq_getElem hlt⟩
    obtain ⟨u, su, rfl, mu, pu⟩ := ids_get (by rw [← hia]; exact e1)
    have hlw : ltV u own = true := pu
    have T : TN vs (rowS 0 vs.length c) (h7C o A B own y) := .inr ⟨0, c, o, rfl, by unfold h7C; rw [heapOf0_get]; rfl, ho, hrow⟩
    have gA : (h7C o A B own y).get 1 = some (iB ia) := by unfold h7C; rw [heapOf0_get, hAi]; rfl
    have a1 : cS7 33 [rowS 0 vs.length c, .int .i64 u.id] (h7C o A B own y) = some (gT u true, heapOf [.dead] (h7C o A B own y)) := by rw [cS7_33, G33M_of T.tq (by omega), getV_of hup mu]
    refine FRwp.pieceY cS7_ok follows 3 _ _ _ _ (r7os o A B own y u vs.length c q i ia.length ib.length u.id lb fb g)
      (Met.cons (ltO_ok h134) (Met.cons (ixI_ok hlt) (Met.cons (ldI_ok gA e1) (Met.cons (bool_ok (by rw [hlw]; rfl)) (Met.cons (wrap_up (by omega)) Met.nil)))))
      (MetH.cons a1 MetH.nil) MetE.nil s7o rfl rfl (fixT ho jA jB _) fun g' => .inl ⟨rfl, ia.length - (i + 1), by omega, i + 1, g', by omega, rfl, rfl⟩
/-- The first loop: those that are told. -/
theorem loop1_fr (ho : inertB o = true) (jA : inertB A = true) (jB : inertB B = true) (hn : vs.length ≤ 100) (hrow : vs = [] ∨ ∃ ty ro, o = .cells ty (vrow vs) ro) (W : Base) (g : Nat → Value) :
    FRwp Try.prog 183 W (.seq c7g (.block 0 (.loop c7h))) (M7 o A B own vs.length c ia.length ib.length fa fb 0 g) (fun e st => e = .normal ∧ ∃ g, st = M7 o A B own vs.length c ia.length ib.length fa fb (vs.filter nn).length g) := by
  refine FRwp.seq (Q1 := fun e st => e = .normal ∧ ∃ g, st = H7 o A B own vs.length c ia.length ib.length fa fb 0 0 g) (FRwp.pieceY cS7_ok follows 3 _ _ _ _ (r7g o A B own vs.length c 0 ia.length ib.length fa fb g) Met.nil MetH.nil MetE.nil s7g rfl rfl (fixT ho jA jB _) fun g => ⟨rfl, g, rfl⟩) ?_ (fun x st hne hq => absurd hq.1 hne)
  rintro st ⟨-, g, rfl⟩
  refine FRwp.block ?_
  refine FRwp.loop (fun k st => ∃ i g, i ≤ vs.length ∧ k = vs.length - i ∧ st = H7 o A B own vs.length c ia.length ib.length fa fb ((vs.take i).filter nn).length i g) ?_ (k := vs.length) ⟨0, g, Nat.zero_le _, rfl, rfl⟩
  rintro k st ⟨i, g, hi, rfl, rfl⟩
  have hfl : ((vs.take i).filter nn).length ≤ i := by
    have := List.length_filter_le nn (vs.take i)
    rw [List.length_take] at this
    omega
  cases h61 : decide (i < vs.length) with
  | false =>
    have hii : i = vs.length := by have := of_decide_eq_false h61; omega
    subst hii
    rw [List.take_length] at hfl ⊢
    refine FRwp.pieceY cS7_ok follows 3 _ _ _ _ (r7hx o A B own vs.length c (vs.filter nn).length vs.length ia.length ib.length fa fb g) (Met.cons (ltO_ok h61) Met.nil) MetH.nil MetE.nil s7h rfl rfl (fixT ho jA jB _) fun g' => .inr ⟨by simp, ?_⟩
    show (if (0 : Nat) = 0 then _ else _)
    rw [if_pos rfl]
    exact ⟨rfl, g', rfl⟩
  | true =>
    have hlt := of_decide_eq_true h61
    obtain ⟨x, hx⟩ := some_at hlt
    have hr : ∃ ty ro, o = .cells ty (vrow vs) ro := by
      rcases hrow with h | h
      · rw [h] at hlt; simp at hlt
      · exact h
    have hat : RowAt (h7B o A B own) 0 vs := rowAt0 hr
    have hld : (ldO (h7B o A B own).get 4 0 (i * 7 + 1) (.bool x.n)).1 = some (ldO (h7B o A B own).get 4 0 (i * 7 + 1) (.bool x.n)).2 := bload_ok hat hx
    have hs := filt_step (p := nn) hx
    cases hnn : nn x with
    | true =>
      rw [hnn] at hs
      have e1 : ((vs.take (i + 1)).filter nn).length = ((vs.take i).filter nn).length + 1 := by rw [hs]; simp
      exact FRwp.pieceY cS7_ok follows 3 _ _ _ _ (r7ht o A B own x vs.length c ((vs.take i).filter nn).length i ia.length ib.length fa fb g) (Met.cons (ltO_ok h61) (Met.cons (ix_ok hlt) (Met.cons hld (Met.cons (bool_ok hnn) (Met.cons (wrap_up (by omega)) (Met.cons (wrap_up (by omega)) Met.nil)))))) MetH.nil MetE.nil s7h rfl rfl (fixT ho jA jB _)
        fun g' => .inl ⟨rfl, vs.length - (i + 1), by omega, i + 1, g', by omega, rfl, by rw [e1]⟩
    | false =>
      rw [hnn] at hs
      have e1 : ((vs.take (i + 1)).filter nn).length = ((vs.take i).filter nn).length := by rw [hs]; simp
      exact FRwp.pieceY cS7_ok follows 3 _ _ _ _ (r7hf o A B own x vs.length c ((vs.take i).filter nn).length i ia.length ib.length fa fb g) (Met.cons (ltO_ok h61) (Met.cons (ix_ok hlt) (Met.cons hld (Met.cons (bool_ok hnn) (Met.cons (wrap_up (by omega)) Met.nil))))) MetH.nil MetE.nil s7h rfl rfl (fixT ho jA jB _)
        fun g' => .inl ⟨rfl, vs.length - (i + 1), by omega, i + 1, g', by omega, rfl, by rw [e1]⟩
end
theorem rowIv_vI (ids : List Int) (b : Nat) : rowIv ids b = vI (!ids.isEmpty) b ids.length := by cases ids <;> rfl
theorem law7_row (o : Blk) (ho : inertB o = true) (own : ViewV) (vs : List ViewV) (hmax : vs.length ≤ 9223372036854775807) (hrow : vs = [] ∨ ∃ ty ro, o = .cells ty (vrow vs) ro) (c : Nat) (W : Base) :
    FRwp Try.prog 183 W code7 ⟨tmsOf [rowS 0 vs.length c, hcA own] 0 .leaf, heapOf [o, .dead] hp0, []⟩ Ends7 := by
  have T0 : TN vs (rowS 0 vs.length c) (h7 o own) := .inr ⟨0, c, o, rfl, by unfold h7; rw [heapOf0_get]; rfl, ho, hrow⟩
  refine FRwp.seq (Q1 := fun e st => e = .normal ∧ ∃ g, st = stOf 183 g [(0, rowS 0 vs.length c), (3, pb 1 0)] [o, hB own]) (FRwp.pieceY cS7_ok follows 1 _ _ _ _ (r7a o own vs.length c) Met.nil MetH.nil MetE.nil s7a rfl rfl (fix11 ho _) fun g => ⟨rfl, g, rfl⟩) ?_ (fun x st hne hq => absurd hq.1 hne)
  rintro st ⟨-, g, rfl⟩
  have k33 : cS7 33 [rowS 0 vs.length c, .int .i64 own.i] (h7 o own) = some (gT ((findV vs own.i).getD (zeroV 0)) (findV vs own.i).isSome, heapOf [.dead] (h7 o own)) := by rw [cS7_33, G33M_of T0.tq hmax]; rfl
  refine FRwp.seq (Q1 := fun e st => e = .normal ∧ ∃ g, st = C7 o own vs.length c (findV vs own.i).isSome g) (FRwp.pieceY cS7_ok follows 1 _ _ _ _ (r7b o own _ vs.length c _ g) Met.nil (MetH.cons k33 MetH.nil) MetE.nil s7b rfl rfl (fix11 ho _) fun g => ⟨rfl, g, rfl⟩) ?_ (fun x st hne hq => absurd hq.1 hne)
  rintro st ⟨-, g, rfl⟩
  let Q3 : Exit → St → Prop := fun e st => (e = .normal ∧ vs.length ≤ 100 ∧ rightB vs = true ∧ Kn own ∧ findV vs own.i = none ∧ ∃ g, st = stOf 183 g [(0, rowS 0 vs.length c), (3, pb 1 0)] [o, hB own]) ∨ Ends7 e st
  refine FRwp.seq (Q1 := Q3) ?_ ?_ ?_
  · cases h33 : decide (100 < vs.length) with
    | true => exact FRwp.pieceY cS7_ok follows 0 _ _ _ _ (r7c1 o own vs.length c _ g) (Met.cons (hu_ok h33) Met.nil) MetH.nil MetE.nil s7c rfl rfl (noFix _) fun g => .inr ⟨rfl, g, rfl⟩
    | false =>
      have hn : vs.length ≤ 100 := by have := of_decide_eq_false h33; omega
      have k18 : cS7 18 [rowS 0 vs.length c] (h7 o own) = some (.int .i64 (bif rightB vs then 0 else 1), heapOf [.dead] (h7 o own)) := by
        rw [cS7_18, G18_of T0 (by omega)]
        cases rightB vs <;> rfl
      have ez : ∀ {r : Bool}, (!rightB vs) = r → (ezO (bif rightB vs then 0 else 1) r).1 = some (ezO (bif rightB vs then 0 else 1) r).2 := fun {r} h => by
        show some (Value.bool ((bif rightB vs then (0 : Int) else 1) != 0)) = some (.bool r)
        rw [← h]; cases rightB vs <;> rfl
      cases hr : rightB vs with
      | false =>
        have e37 := ez (r := true) (by rw [hr]; rfl)
        rw [hr] at k18 e37
        exact FRwp.pieceY cS7_ok follows 0 _ _ _ _ (r7c2 o own vs.length c _ _ g) (Met.cons (hu_ok h33) (Met.cons e37 Met.nil)) (MetH.cons k18 MetH.nil) MetE.nil s7c rfl rfl (noFix _) fun g => .inr ⟨rfl, g, rfl⟩
      | true =>
        have e37 := ez (r := false) (by rw [hr]; rfl)
        rw [hr] at k18 e37
        have e42 : ∀ {r : Bool}, (!okV own) = r → (chO own r).1 = some (chO own r).2 := fun {r} h => by
          show some (Value.bool (chk own.n own.t own.o own.r own.d own.i != 0)) = some (.bool r)
          rw [← h]
          unfold chk okV
          cases okH own.n own.t own.o own.r own.d own.i <;> rfl
        cases hok : okV own with
        | false => exact FRwp.pieceY cS7_ok follows 0 _ _ _ _ (r7c3 o own vs.length c _ _ g) (Met.cons (hu_ok h33) (Met.cons e37 (Met.cons (e42 (by rw [hok]; rfl)) Met.nil))) (MetH.cons k18 MetH.nil) MetE.nil s7c rfl rfl (noFix _) fun g => .inr ⟨rfl, g, rfl⟩
        | true =>
          have f42 := e42 (r := false) (by rw [hok]; rfl)
          cases hnl : own.n with
          | true => exact FRwp.pieceY cS7_ok follows 0 _ _ _ _ (r7c4 o own vs.length c _ _ g) (Met.cons (hu_ok h33) (Met.cons e37 (Met.cons f42 (Met.cons (bool_ok hnl) Met.nil)))) (MetH.cons k18 MetH.nil) MetE.nil s7c rfl rfl (noFix _) fun g => .inr ⟨rfl, g, rfl⟩
          | false =>
            cases hf : findV vs own.i with
            | some x => exact FRwp.pieceY cS7_ok follows 0 _ _ _ _ (r7c5 o own vs.length c _ g) (Met.cons (hu_ok h33) (Met.cons e37 (Met.cons f42 (Met.cons (bool_ok hnl) Met.nil)))) (MetH.cons k18 MetH.nil) MetE.nil s7c rfl rfl (noFix _) fun g => .inr ⟨rfl, g, rfl⟩
            | none => exact FRwp.pieceY cS7_ok follows 1 _ _ _ _ (r7c6 o own vs.length c _ g) (Met.cons (hu_ok h33) (Met.cons e37 (Met.cons f42 (Met.cons (bool_ok hnl) Met.nil)))) (MetH.cons k18 MetH.nil) MetE.nil s7c rfl rfl (fix11 ho _) fun g => .inl ⟨rfl, hn, hr, kn_iff.2 ⟨hnl, hok⟩, hf, g, rfl⟩
  · rintro st (⟨-, hn, hr, hk, hf, g, rfl⟩ | ⟨h, -⟩)
    · have hno : ∀ x ∈ vs, x.id ≠ own.i := fun x hx e => by
        have := List.find?_eq_none.1 hf x hx
        exact this (by simp [isId, e])
      have hsum := split_count (vs := vs) (own := own) hr hk hno
      have k24 : cS7 24 [rowS 0 vs.length c, hcA own] (h7 o own) = some (vI (!(idsP (pr24 own) vs).isEmpty) 3 (idsP (pr24 own) vs).length, heapOf [ownI (idsP (pr24 own) vs), .dead] (h7 o own)) := by
        rw [cS7_24, G24_of own T0 (by omega), ← rowIv_vI]; rfl
      have T1 : ∀ A, TN vs (rowS 0 vs.length c) (h7A o A own) := fun A => .inr ⟨0, c, o, rfl, by unfold h7A; rw [heapOf0_get]; rfl, ho, hrow⟩
      have k25 : ∀ A, cS7 25 [rowS 0 vs.length c, hcA own] (h7A o A own) = some (vI (!(idsP (pr25 own) vs).isEmpty) 4 (idsP (pr25 own) vs).length, heapOf [ownI (idsP (pr25 own) vs), .dead] (h7A o A own)) := fun A => by
        rw [cS7_25, G25_of own (T1 A) (by omega), ← rowIv_vI]; rfl
      have hfst := fun z => low_first (vs := vs) (own := own) (z := z) hr hk
      generalize hia : idsP (pr24 own) vs = ia at *
      generalize hib : idsP (pr25 own) vs = ib at *
      have iA := ownI_inert ia
      have iB' := ownI_inert ib
      refine FRwp.seq (Q1 := fun e st => e = .normal ∧ ∃ g, st = stOf 183 g [(0, rowS 0 vs.length c), (3, pb 2 0), (7, vI (!ia.isEmpty) 1 ia.length)] [o, ownI ia, hB own]) (FRwp.pieceY cS7_ok follows 2 _ _ _ _ (r7d o (ownI ia) own vs.length c ia.length (!ia.isEmpty) g) Met.nil (MetH.cons k24 MetH.nil) MetE.nil s7d rfl rfl (fixOO ho iA _) fun g => ⟨rfl, g, rfl⟩) ?_ (fun x st hne hq => absurd hq.1 hne)
      rintro st ⟨-, g, rfl⟩
      refine FRwp.seq (Q1 := fun e st => e = .normal ∧ ∃ g, st = stOf 183 g [(0, rowS 0 vs.length c), (3, pb 3 0), (7, vI (!ia.isEmpty) 1 ia.length), (8, vI (!ib.isEmpty) 2 ib.length)] [o, ownI ia, ownI ib, hB own]) (FRwp.pieceY cS7_ok follows 3 _ _ _ _ (r7e o (ownI ia) (ownI ib) own vs.length c ia.length ib.length (!ia.isEmpty) (!ib.isEmpty) g) Met.nil (MetH.cons (k25 _) MetH.nil) MetE.nil s7e rfl rfl (fixT ho iA iB' _) fun g => ⟨rfl, g, rfl⟩) ?_ (fun x st hne hq => absurd hq.1 hne)
      rintro st ⟨-, g, rfl⟩
      refine FRwp.seq (Q1 := fun e st => e = .normal ∧ ∃ g, st = M7 o (ownI ia) (ownI ib) own vs.length c ia.length ib.length (!ia.isEmpty) (!ib.isEmpty) 0 g) (FRwp.pieceY cS7_ok follows 3 _ _ _ _ (r7f o (ownI ia) (ownI ib) own vs.length c ia.length ib.length (!ia.isEmpty) (!ib.isEmpty) g) Met.nil MetH.nil MetE.nil s7f rfl rfl (fixT ho iA iB' _) fun g => ⟨rfl, g, rfl⟩) ?_ (fun x st hne hq => absurd hq.1 hne)
      rintro st ⟨-, g, rfl⟩
      refine FRwp.seq (loop1_fr ho iA iB' hn hrow W g) ?_ (fun x st hne hq => absurd hq.1 hne)
      rintro st ⟨-, g, rfl⟩
      have hql : (vs.filter nn).length ≤ vs.length := List.length_filter_le _ _
      have hlp := low_pos hr
      generalize hq : (vs.filter nn).length = q at *
      have T2 : TN vs (rowS 0 vs.length c) (h7B o (ownI ia) (ownI ib) own) := .inr ⟨0, c, o, rfl, by unfold h7B; rw [heapOf0_get]; rfl, ho, hrow⟩
      have k21 : cS7 21 [rowS 0 vs.length c] (h7B o (ownI ia) (ownI ib) own) = some (.tuple #[.agg ⟨vc (lowV vs).1⟩, .bool (lowV vs).2], heapOf [.dead] (h7B o (ownI ia) (ownI ib) own)) := by rw [cS7_21, G21_of T2 (by omega)]; rfl
      generalize (lowV vs).1 = y at *
      generalize (lowV vs).2 = lb at *
      refine FRwp.seq (Q1 := fun e st => e = .normal ∧ ∃ g, st = N7 o (ownI ia) (ownI ib) own y vs.length c q ia.length ib.length lb (!ia.isEmpty) (!ib.isEmpty) [] g) (FRwp.pieceY cS7_ok follows 3 _ _ _ _ (r7i o (ownI ia) (ownI ib) own y vs.length c q ia.length ib.length lb (!ia.isEmpty) (!ib.isEmpty) g) Met.nil (MetH.cons k21 MetH.nil) MetE.nil s7i rfl rfl (fixT ho iA iB' _) fun g => ⟨rfl, g, rfl⟩) ?_ (fun x st hne hq => absurd hq.1 hne)
      rintro st ⟨-, g, rfl⟩
      refine FRwp.seq (loop2_fr ho iA iB' hn hrow hr hia.symm rfl rfl W g) ?_ (fun x st hne hq => absurd hq.1 hne)
      rintro st ⟨-, g, rfl⟩
      refine FRwp.seq (loop4_fr ho iA iB' hn hrow hr hib.symm rfl rfl W g) ?_ (fun x st hne hq => absurd hq.1 hne)
      rintro st ⟨-, g, rfl⟩
      refine FRwp.seq (loop6_fr ho iA iB' hn hrow hr hia.symm rfl rfl W g) ?_ (fun x st hne hq => absurd hq.1 hne)
      rintro st ⟨-, g, rfl⟩
      have hkb : kk (!ib.isEmpty) ib.length = ib.length := by cases ib <;> rfl
      have hgt : (gtO q 0 (decide (0 < q))).1 = some (gtO q 0 (decide (0 < q))).2 := gtO_ok rfl
      cases ia with
      | nil =>
        exact FRwp.pieceY cS7_ok follows 0 _ _ _ _ (r7pn o (ownI []) (ownI ib) own y vs.length c q ([] : List Int).length ib.length lb (!ib.isEmpty) g (decide (0 < q)))
          (Met.cons (adO_ok (by rw [hkb]; simp at hsum; simp [kk]; omega)) (Met.cons (eqO_ok (by rw [hkb]; simp at hsum; simp [kk, hsum])) (Met.cons hgt (Met.cons (bool_ok (by rw [hlp]; simp)) Met.nil)))) MetH.nil MetE.nil s7p rfl rfl (noFix _) fun g => ⟨rfl, g, rfl⟩
      | cons z ia =>
        have hz := hfst z rfl
        have hsl : (z :: ia).length + ib.length = q := hsum
        have gA : (h7C o (ownI (z :: ia)) (ownI ib) own y).get 1 = some (iB (z :: ia)) := by unfold h7C; rw [heapOf0_get]; rfl
        exact FRwp.pieceY cS7_ok follows 0 _ _ _ _ (r7pr o (ownI (z :: ia)) (ownI ib) own y vs.length c q (z :: ia).length ib.length z lb (!ib.isEmpty) g (decide (0 < q)))
          (Met.cons (adO_ok (by rw [hkb]; show (z :: ia).length + ib.length < 3000000; omega)) (Met.cons (eqO_ok (by rw [hkb]; show ((z :: ia).length + ib.length == q) = true; rw [hsl]; simp)) (Met.cons hgt (Met.cons (bool_ok (by rw [hlp]; simp)) (Met.cons (eqO_ok (by simp)) (Met.cons (ixI_ok (by simp)) (Met.cons (ldI_ok gA rfl) (Met.cons (bool_ok (by rw [hz]; simp)) Met.nil)))))))) MetH.nil MetE.nil s7p rfl rfl (noFix _) fun g => ⟨rfl, g, rfl⟩
    · cases h
  · rintro e st hne (⟨h, -⟩ | h)
    · exact absurd h hne
    · exact h
theorem law7_nil (own : ViewV) (W : Base) : FRwp Try.prog 183 W code7 ⟨tmsOf [nilS, hcA own] 0 .leaf, heapOf [.dead, .dead] hp0, []⟩ Ends7 := by
  have e42 : ∀ {r : Bool}, (!okV own) = r → (chO own r).1 = some (chO own r).2 := fun {r} h => by
    show some (Value.bool (chk own.n own.t own.o own.r own.d own.i != 0)) = some (.bool r)
    rw [← h]
    unfold chk okV
    cases okH own.n own.t own.o own.r own.d own.i <;> rfl
  cases hok : okV own with
  | false => exact FRwp.piece cS7n_ok follows 0 _ _ _ _ (n7a own) (Met.cons (e42 (by rw [hok]; rfl)) Met.nil) s7 rfl rfl rfl (noFix _) fun g => ⟨rfl, g, rfl⟩
  | true =>
    cases hnl : own.n with
    | true => exact FRwp.piece cS7n_ok follows 0 _ _ _ _ (n7b own) (Met.cons (e42 (by rw [hok]; rfl)) (Met.cons (bool_ok hnl) Met.nil)) s7 rfl rfl rfl (noFix _) fun g => ⟨rfl, g, rfl⟩
    | false => exact FRwp.piece cS7n_ok follows 0 _ _ _ _ (n7c own) (Met.cons (e42 (by rw [hok]; rfl)) (Met.cons (bool_ok hnl) Met.nil)) s7 rfl rfl rfl (noFix _) fun g => ⟨rfl, g, rfl⟩
end Go.Proofs.Ytiogdklmhpllfaa.LtA
namespace Go.Proofs.Ytiogdklmhpllfaa.LtA
open Go Go.Proofs Go.Proofs.Ytiogdklmhpllfaa.AI Go.RowKit Go.ChangeShapes

theorem valw_max {w : World} {r : Reach} {base : Nat} {a : Addr} {n c : Nat} (h : Value.okWide Try.prog w r base 29 (.slice (some a) n c)) : n ≤ 9223372036854775807 := by
  unfold Value.okWide at h
  rw [Try.underlying29] at h
  have h' : Cell.okWide Try.prog w r base 29 (.slice (some a) n c) := h
  unfold Cell.okWide at h'
  rw [Try.underlying29] at h'
  have h2 : Cell.ok Try.prog w r base 29 (.slice (some a) n c) := h'
  unfold Cell.ok at h2
  rw [Try.underlying29] at h2
  obtain ⟨h1, h3, -⟩ := h2
  have h4 : (c : Int) ≤ 9223372036854775807 := h3
  omega
/-- A row of whatever length, opened. -/
theorem row_argM {H : Type} {enc : TypeId × Value → H} {W : World} {base : Nat} {v : Value} {d : DataW H} {p : List MemPlace} (hval : Value.okWide Try.prog W .any base 29 v) (hT : ∃ fuel, DataW.trod enc Try.prog W 0 (fun _ => true) true fuel 29 v.cells.toList = some (d, p)) :
    ∃ (o : Blk) (s : Value) (m : BM), inertB o = true ∧ Sim m (heapOf [o, .dead] hp0).get W ∧ (∀ b, rw? (heapOf [o, .dead] hp0).get b = false) ∧ VRel m (heapOf [o, .dead] hp0).get s v ∧
      ((s = nilS ∧ o = .dead) ∨ ∃ vs : List ViewV, s = rowS 0 vs.length 2 ∧ vs.length ≤ 9223372036854775807 ∧ (vs = [] ∨ ∃ ty ro, o = .cells ty (vrow vs) ro)) := by
  rcases valw_slice Try.underlying29 hval with rfl | ⟨r, off, n, c, rfl, hn⟩
  · exact ⟨.dead, nilS, bm0, rfl, sim_bm0, ro2_dead, .flat rfl, .inl ⟨rfl, rfl⟩⟩
  · have hmax := valw_max hval
    by_cases hd : n = 0
    · subst hd
      exact ⟨.dead, rowS 0 0 2, bm0, rfl, sim_bm0, ro2_dead, .slice (.of hn (by decide)) (.inl (by rw [heapOf0_get]; rfl)), .inr ⟨[], rfl, by simp, .inl rfl⟩⟩
    · obtain ⟨fuel, hT⟩ := hT
      have hT' : DataW.trod enc Try.prog W 0 (fun _ => true) true fuel 29 [.slice (some ⟨r, off, none⟩) n c] = some (d, p) := by simpa [Value.cells] using hT
      obtain ⟨ps, arr, ty, fr, hl, hcell, hlen, hv⟩ := vrow_of hT' (by omega)
      have hin := vrow_inert ps
      refine ⟨.cells ty (vrow ps) true, rowS 0 n 2, _, hin, sim_dead (row_sim (k := 7) (n := n) hcell hlen hin hv), ro2_cells, .slice (.of hn (by decide)) (.inr ⟨off, arr.size, rfl, .inl rfl, ?_⟩), .inr ⟨ps, by rw [hl], by omega, .inr ⟨ty, true, rfl⟩⟩⟩
      constructor <;> intro h <;> simp at h
theorem ends7 {e : Exit} {st : St} (h : Ends7 e st) : (e = .normal ∨ e = .ret) ∧ st.df = [] ∧ retVal Try.prog Try.f7 st = some (.bool true) := by
  obtain ⟨rfl, g, rfl⟩ := h
  exact ⟨.inr rfl, rfl, q7 _ _ _⟩
theorem walk7 {H : Type} {enc : TypeId × Value → H} (W : World) (base : Nat) (args : Array Value) (ds : List (DataW H)) (p : List MemPlace) (hsz : args.size = 2) (hval : ∀ (j : Nat) t v, Try.f7.params[j]? = some t → args[j]? = some v → Value.okWide Try.prog W .any base t v)
    (hA : DataW.TrodAll enc Try.prog W 0 (fun _ => true) true [29, 23] args.toList ds p) : Calls Try.prog 7 args W fun e W' => e = .returned (.bool true) ∧ Below W.heap.size W W' := by
  obtain ⟨vl, vh, rfl⟩ : ∃ vl vh, args = #[vl, vh] := by
    obtain ⟨l⟩ := args
    match l, hsz with
    | [a, b], _ => exact ⟨a, b, rfl⟩
  obtain ⟨y, hy, rfl⟩ := open_height' 0 (hval 1 23 vh (by kernel_rfl) rfl)
  obtain ⟨v1, vs1, d1, ds1, p1, q1, e1, _, _, hT, _⟩ := trodAll_cons hA
  cases e1
  obtain ⟨o, s, m, hi, sim, ro, rv, hrow⟩ := row_argM (hval 0 29 vl (by kernel_rfl) rfl) hT
  refine law_end Try.func7 body7 ntmps7 W (args0 := [s, hcA y]) (by simp) (ok2_heap o .dead) sim ro (.cons rv (.cons (hcA_rel y) .nil)) fun W => ?_
  rcases hrow with ⟨rfl, rfl⟩ | ⟨vs, rfl, hmax, hr⟩
  · exact FRwp.mono (law7_nil y W) fun e st h => ends7 h
  · exact FRwp.mono (law7_row o hi y vs hmax hr 2 W) fun e st h => ends7 h
theorem params7 : ∀ t ∈ Try.f7.params.toList, Try.prog.readableRec t = true ∧ t < Try.prog.types.size := by
  have h : Try.f7.params.toList.all (fun t => Try.prog.readableRec t && decide (t < Try.prog.types.size)) = true := by kernel_rfl
  intro t ht
  have := List.all_eq_true.1 h t ht
  simpa using this
theorem lifted7 (os : Os) (started : os.Started) (H : Type) (enc : TypeId × Value → H) :
    ReturnsInHanded {} Try.checked os 7 .any (Rows.viewsSplitSpec.pre6 enc Try.prog Try.f7 Rows.viewsSplitRow.domain false) (Rows.viewsSplitSpec.post enc Try.prog Try.f7 false true false false) :=
  law_lifted (C := Try.checked) (tb := 4) started own (by kernel_rfl) Try.func7 laid params7 rfl (by kernel_rfl) Try.underlying4
    (fun ds hl => by
      match ds, hl with
      | [_, _], _ => rfl)
    (ChangeSpec.witness6 (enc := enc) (C := Try.checked) false ⟨#[], #[nilS, hcA (zeroV 0)], []⟩ 8 (by kernel_rfl) (by kernel_rfl) (by kernel_rfl) (by kernel_rfl))
    (fun W base args ds p hsz hval hA => walk7 W base args ds p hsz hval hA)

/-- The statement. -/
theorem viewsSplit_proved : Rows.ViewsSplitSaid :=
  OpenClaim.holds_of_wide 7 Try.f7 rfl rfl rfl rfl rfl rfl rfl ⟨rfl, rfl, rfl, rfl, rfl⟩ rfl rfl rfl rfl rfl (by kernel_rfl) Try.func7 (by kernel_rfl)
    (of_decide_eq_true (by kernel_rfl)) (by unfold Func.isWrapper; first | (rw [if_pos (by decide +kernel)]; kernel_rfl) | (rw [if_neg (by decide +kernel)]; exact ⟨rfl, rfl⟩))
    (fun os started H enc _ => lifted7 os started H enc)
#print axioms viewsSplit_proved
end Go.Proofs.Ytiogdklmhpllfaa.LtA
