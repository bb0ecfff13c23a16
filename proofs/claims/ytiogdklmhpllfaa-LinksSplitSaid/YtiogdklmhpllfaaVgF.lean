/- views.rising: the ids of those that are asked for, the lowest one first. -/
import Derived.Test.YtiogdklmhpllfaaVgE
import Derived.Test.YtiogdklmhpllfaaVgD
set_option linter.unusedVariables false
set_option linter.unusedSimpArgs false
set_option maxRecDepth 100000
namespace Go.Proofs.Ytiogdklmhpllfaa.LtA
open Go Go.Proofs Go.Proofs.Ytiogdklmhpllfaa.AI Go.RowKit Go.Proofs.Ytiogdklmhpllfaa.Sort

/-! ### Rows of ints -/
def icell (x : Int) : Value := .int .i64 x
def iB (ids : List Int) : Blk := .cells 3 (ids.map icell) false
def newI (b k : Nat) : Value := .slice (some ⟨b, 0, none⟩) k 4
theorem iB_inert (ids : List Int) : inertB (iB ids) = true := by
  show List.all _ inert = true
  rw [List.all_map]
  exact List.all_eq_true.2 fun x _ => rfl
theorem underlying31 : Try.prog.underlying 31 = some (.slice 3) := by kernel_rfl
theorem info3 : ∃ i, Try.prog.info? 3 = some i ∧ i.size = 1 ∧ i.bytes = 8 := by
  have h : (Try.prog.info? 3).map (fun i => (i.size, i.bytes)) = some (1, 8) := by kernel_rfl
  obtain ⟨i, h1, h2⟩ := Option.map_eq_some_iff.1 h
  simp only [Prod.mk.injEq] at h2
  exact ⟨i, h1, h2.1, h2.2⟩
theorem zero3 : ∃ z, tzero Try.prog 3 = some z ∧ z.length = 1 := by
  have h : (tzero Try.prog 3).map (fun z => z.length) = some 1 := by kernel_rfl
  obtain ⟨z, h1, h2⟩ := Option.map_eq_some_iff.1 h
  exact ⟨z, h1, h2⟩
theorem app_int {get : Nat → Option Blk} {sz b b2 k : Nat} {ids : List Int} {x : Int} (hb : get b = some (iB ids)) (hb2 : get b2 = some (.cells 3 [icell x] false)) (hk : k = ids.length) (hl : k < 2000000) :
    aAppend Try.prog get sz [31, 31] [newI b k, newI b2 1] = some (newI sz (k + 1), [.put b .dead, .push (iB (ids ++ [x]))]) := by
  subst hk
  obtain ⟨i, hi, h1, h8⟩ := info3
  obtain ⟨z, hz, hzl⟩ := zero3
  unfold iB at hb
  have hsrc : aSrc Try.prog get 1 z (.slice 3) (newI b2 1) = some ([icell x], 1) := by
    unfold aSrc newI
    simp only [srcLen, srcCells, hb2]
    rw [if_neg (by omega), if_neg (by omega), getR_all (n := 1 * 1) rfl]
    rfl
  have hg : getR (ids.map icell) 0 (ids.length * 1) = some (ids.map icell) := getR_all (by simp)
  unfold aAppend
  simp only [underlying31, hi, hz, h1, h8, hzl]
  rw [if_neg (by decide)]
  simp only [hsrc]
  rw [if_neg (by simp [isOne, icell])]
  simp only [newI]
  rw [if_neg (by omega), if_neg (by omega)]
  simp only [hb, hg]
  rw [if_neg (by omega), if_pos (by decide), if_neg (by simp)]
  unfold iB
  rw [List.map_append]
  rfl
def rowIv (ids : List Int) (b : Nat) : Value := match ids with
  | [] => nilS
  | _ :: _ => newI b ids.length
def rowIO (ids : List Int) : List Blk := match ids with
  | [] => []
  | _ :: _ => [iB ids]

/-! ### Its runs -/
noncomputable def E58 : Ext := extG (extH Try.prog [(17, g17)]) [(78, G78)]
theorem E58_ok : ExtOk Try.prog E58 := extG_ok (extH_ok (.cons hk17 .nil)) (.cons hkG78 .nil)
noncomputable def c58 : CallF := aCall Try.prog E58 5
theorem c58_ok : CallOk Try.prog c58 := aCall_sound E58_ok follows 5
theorem c58_78 (args : List Value) (hp : Hp) : c58 78 args hp = G78 args hp := by
  show aCall Try.prog E58 5 78 _ _ = _
  rw [aCall]; rfl
noncomputable def c58n : CallF := aCall Try.prog (extH Try.prog []) 60
theorem c58n_ok : CallOk Try.prog c58n := aCall_sound (extH_ok .nil) follows 60
noncomputable def fb58 : Code := (Try.f58.body).getD .skip
noncomputable def c58a : Code := sL fb58
noncomputable def c58b : Code := sL (sR fb58)
noncomputable def c58c : Code := sL (sL (sR (sR fb58)))
noncomputable def c58d : Code := unL (unB (sR (sL (sR (sR fb58)))))
noncomputable def c58e : Code := sL (sR (sR (sR fb58)))
noncomputable def c58f : Code := sL (sR (sR (sR (sR fb58))))
noncomputable def c58g : Code := sL (sL (sR (sR (sR (sR (sR fb58))))))
noncomputable def c58h : Code := unL (unB (sR (sL (sR (sR (sR (sR (sR fb58))))))))
noncomputable def c58i : Code := sR (sR (sR (sR (sR (sR fb58)))))
noncomputable abbrev rest58 : Code := .seq c58e (.seq c58f (.seq (.seq c58g (.block 2 (.loop c58h))) c58i))
noncomputable abbrev code58 : Code := .seq c58a (.seq c58b (.seq (.seq c58c (.block 0 (.loop c58d))) rest58))
theorem body58 : Try.f58.body = some code58 := by kernel_rfl
theorem ntmps58 : Try.f58.ntmps = 41 := by kernel_rfl
theorem q58 (v : Value) (O : List Blk) (g : Nat → Value) : retVal Try.prog Try.f58 (stOf 41 g [(4, v)] O) = some v := by kernel_rfl
theorem s58a : codeSafe Try.prog 41 c58a = true := by kernel_rfl
theorem s58b : codeSafe Try.prog 41 c58b = true := by kernel_rfl
theorem s58c : codeSafe Try.prog 41 c58c = true := by kernel_rfl
theorem s58d : codeSafe Try.prog 41 c58d = true := by kernel_rfl
theorem s58e : codeSafe Try.prog 41 c58e = true := by kernel_rfl
theorem s58f : codeSafe Try.prog 41 c58f = true := by kernel_rfl
theorem s58g : codeSafe Try.prog 41 c58g = true := by kernel_rfl
theorem s58h : codeSafe Try.prog 41 c58h = true := by kernel_rfl
theorem s58i : codeSafe Try.prog 41 c58i = true := by kernel_rfl
theorem s58r : codeSafe Try.prog 41 rest58 = true := by kernel_rfl
/-- A function value that holds on to one variable. -/
def Cl (f : FuncId) (b : Nat) : Value := .func (.func f) #[] #[pb b 0]
section
variable (o ob : Blk) (f : FuncId) (n c i k : Nat) (ws us : List ViewV) (ids : List Int) (x : ViewV) (b : Bool) (g : Nat → Value)
theorem r58a : (execE Try.prog c58 [] [] [] 10 c58a ⟨tmsOf [rowS 0 n c, Cl f 1] 0 .leaf, heapOf [o, ob, .dead] hp0, []⟩).map (fun z => (look2 2 [0, 1] [0, 1] (z.1, z.2.1), z.2.2)) =
    some ((.normal, [o, ob], [(0, rowS 0 n c), (1, Cl f 1)], true), [], [], []) := by kernel_rfl
theorem r58b : (execE Try.prog c58 [] [] [] 10 c58b (stOf 41 g [(0, rowS 0 n c), (1, Cl f 1)] [o, ob])).map (fun z => (look2 2 [0, 1] [0, 1, 5] (z.1, z.2.1), z.2.2)) =
    some ((.normal, [o, ob], [(0, rowS 0 n c), (1, Cl f 1), (5, nilS)], true), [], [], []) := by kernel_rfl
abbrev N58 (i : Nat) (g : Nat → Value) : St := stOf 41 g [(1, Cl f 1), (5, nilS), (11, rowS 0 n c), (12, iN n), (13, iN i)] [o, ob]
abbrev R58 (ws : List ViewV) (k i : Nat) (g : Nat → Value) : St := stOf 41 g [(1, Cl f 2), (5, newS 1 k), (11, rowS 0 n c), (12, iN n), (13, iN i)] [o, rowB ws, ob]
theorem r58c : (execE Try.prog c58 [] [] [] 10 c58c (stOf 41 g [(0, rowS 0 n c), (1, Cl f 1), (5, nilS)] [o, ob])).map (fun z => (look2 2 [0, 1] [1, 5, 11, 12, 13] (z.1, z.2.1), z.2.2)) =
    some ((.normal, [o, ob], [(1, Cl f 1), (5, nilS), (11, rowS 0 n c), (12, iN n), (13, iN 0)], true), [], [], []) := by kernel_rfl
/-- A nil row. -/
theorem n58 : (execQ Try.prog c58n [] 60 code58 ⟨tmsOf [nilS, Cl f 0] 0 .leaf, heapOf [ob, .dead] hp0, []⟩).map (fun z => (look2 0 [] [4] (z.1, z.2.1), z.2.2)) = some ((.ret, [], [(4, nilS)], true), []) := by kernel_rfl
/-- Nothing is asked for. -/
theorem n58r : (execQ Try.prog c58n [] 60 rest58 (stOf 41 g [(5, nilS)] [])).map (fun z => (look2 0 [] [4] (z.1, z.2.1), z.2.2)) = some ((.ret, [], [(4, nilS)], true), []) := by kernel_rfl
theorem n58x : (execE Try.prog c58 [(14, .bool false)] [] [] 20 c58d (N58 o ob f n c i g)).map (fun z => (look2 0 [] [5] (z.1, z.2.1), z.2.2)) = some ((.exit 0, [], [(5, nilS)], true), [ltO i n false], [], []) := by kernel_rfl
theorem r58x : (execE Try.prog c58 [(14, .bool false)] [] [] 20 c58d (R58 o ob f n c ws k i g)).map (fun z => (look2 1 [1] [5] (z.1, z.2.1), z.2.2)) = some ((.exit 0, [rowB ws], [(5, newS 0 k)], true), [ltO i n false], [], []) := by kernel_rfl
def hN58 (o ob : Blk) : Hp := heapOf ([o, ob] ++ [.dead]) hp0
def hR58 (o ob : Blk) (ws : List ViewV) : Hp := heapOf ([o, rowB ws, ob] ++ [.dead]) hp0
theorem n58f : (execE Try.prog c58 [(14, .bool true), (15, pb 0 (i * 7)), (16, .agg ⟨vc x⟩), (25, iN (i + 1))] [] [(20, .bool false, [.push (hB x)])] 20 c58d (N58 o ob f n c i g)).map (fun z => (look2 2 [0, 1] [1, 5, 11, 12, 13] (z.1, z.2.1), z.2.2)) =
    some ((.normal, [o, ob], [(1, Cl f 1), (5, nilS), (11, rowS 0 n c), (12, iN n), (13, iN (i + 1))], true), [ltO i n true, ixO 0 n c i, ldO (hN58 o ob).get 34 0 (i * 7) (.agg ⟨vc x⟩), nxt29 i],
      [(c58 f [hcA x, pb 1 0] ((hN58 o ob).push (vB x)), (.bool false, heapOf [hB x] ((hN58 o ob).push (vB x))))], []) := by kernel_rfl
theorem n58t : (execE Try.prog c58 [(14, .bool true), (15, pb 0 (i * 7)), (16, .agg ⟨vc x⟩), (25, iN (i + 1))] [] [(20, .bool true, [.push (hB x)])] 20 c58d (N58 o ob f n c i g)).map (fun z => (look2 3 [0, 6, 1] [1, 5, 11, 12, 13] (z.1, z.2.1), z.2.2)) =
    some ((.normal, [o, rowB [x], ob], [(1, Cl f 2), (5, newS 1 1), (11, rowS 0 n c), (12, iN n), (13, iN (i + 1))], true), [ltO i n true, ixO 0 n c i, ldO (hN58 o ob).get 34 0 (i * 7) (.agg ⟨vc x⟩), nxt29 i],
      [(c58 f [hcA x, pb 1 0] ((hN58 o ob).push (vB x)), (.bool true, heapOf [hB x] ((hN58 o ob).push (vB x))))], []) := by kernel_rfl
theorem r58f : (execE Try.prog c58 [(14, .bool true), (15, pb 0 (i * 7)), (16, .agg ⟨vc x⟩), (25, iN (i + 1))] [] [(20, .bool false, [.push (hB x)])] 20 c58d (R58 o ob f n c ws k i g)).map (fun z => (look2 3 [0, 1, 2] [1, 5, 11, 12, 13] (z.1, z.2.1), z.2.2)) =
    some ((.normal, [o, rowB ws, ob], [(1, Cl f 2), (5, newS 1 k), (11, rowS 0 n c), (12, iN n), (13, iN (i + 1))], true), [ltO i n true, ixO 0 n c i, ldO (hR58 o ob ws).get 34 0 (i * 7) (.agg ⟨vc x⟩), nxt29 i],
      [(c58 f [hcA x, pb 2 0] ((hR58 o ob ws).push (vB x)), (.bool false, heapOf [hB x] ((hR58 o ob ws).push (vB x))))], []) := by kernel_rfl
theorem r58t : (execE Try.prog c58 [(14, .bool true), (15, pb 0 (i * 7)), (16, .agg ⟨vc x⟩), (25, iN (i + 1))] [] [(20, .bool true, [.push (hB x)]), (24, newS 7 (k + 1), [.put 1 .dead, .push (rowB us)])] 20 c58d (R58 o ob f n c ws k i g)).map (fun z => (look2 3 [0, 7, 2] [1, 5, 11, 12, 13] (z.1, z.2.1), z.2.2)) =
    some ((.normal, [o, rowB us, ob], [(1, Cl f 2), (5, newS 1 (k + 1)), (11, rowS 0 n c), (12, iN n), (13, iN (i + 1))], true), [ltO i n true, ixO 0 n c i, ldO (hR58 o ob ws).get 34 0 (i * 7) (.agg ⟨vc x⟩), nxt29 i],
      [(c58 f [hcA x, pb 2 0] ((hR58 o ob ws).push (vB x)), (.bool true, heapOf [hB x] ((hR58 o ob ws).push (vB x))))], [apR (((((hR58 o ob ws).push (vB x)).push (hB x))).push (vB x)) 7 1 k 6 us]) := by kernel_rfl
theorem r58e : (execE Try.prog c58 [] [] [(27, vU, [.put 0 (rowB us)])] 20 c58e (stOf 41 g [(5, newS 0 k)] [rowB ws])).map (fun z => (look2 1 [0] [5] (z.1, z.2.1), z.2.2)) =
    some ((.normal, [rowB us], [(5, newS 0 k)], true), [], [(c58 78 [newS 0 k, Fc] (hW ws), (vU, (hW ws).put 0 (rowB us)))], []) := by kernel_rfl
theorem r58g0 : (execE Try.prog c58 [] [] [] 20 c58f (stOf 41 g [(5, newS 0 k)] [rowB ws])).map (fun z => (look2 1 [0] [5, 8] (z.1, z.2.1), z.2.2)) = some ((.normal, [rowB ws], [(5, newS 0 k), (8, nilS)], true), [], [], []) := by kernel_rfl
abbrev NB58 (ws : List ViewV) (n i : Nat) (g : Nat → Value) : St := stOf 41 g [(8, nilS), (28, newS 0 n), (29, iN n), (30, iN i)] [rowB ws]
abbrev RB58 (ws : List ViewV) (ids : List Int) (n k i : Nat) (g : Nat → Value) : St := stOf 41 g [(8, newI 1 k), (28, newS 0 n), (29, iN n), (30, iN i)] [rowB ws, iB ids]
theorem r58g : (execE Try.prog c58 [] [] [] 20 c58g (stOf 41 g [(5, newS 0 k), (8, nilS)] [rowB ws])).map (fun z => (look2 1 [0] [8, 28, 29, 30] (z.1, z.2.1), z.2.2)) =
    some ((.normal, [rowB ws], [(8, nilS), (28, newS 0 k), (29, iN k), (30, iN 0)], true), [], [], []) := by kernel_rfl
theorem r58hx : (execE Try.prog c58 [(31, .bool false)] [] [] 20 c58h (RB58 ws ids n k i g)).map (fun z => (look2 1 [1] [8] (z.1, z.2.1), z.2.2)) = some ((.exit 2, [iB ids], [(8, newI 0 k)], true), [ltO i n false], [], []) := by kernel_rfl
theorem n58h : (execE Try.prog c58 [(31, .bool true), (32, pb 0 (i * 7)), (33, .agg ⟨vc x⟩), (39, iN (i + 1))] [] [] 20 c58h (NB58 ws n i g)).map (fun z => (look2 2 [0, 4] [8, 28, 29, 30] (z.1, z.2.1), z.2.2)) =
    some ((.normal, [rowB ws, iB [x.id]], [(8, newI 1 1), (28, newS 0 n), (29, iN n), (30, iN (i + 1))], true), [ltO i n true, ixO 0 n 22 i, ldO (hW ws).get 34 0 (i * 7) (.agg ⟨vc x⟩), nxt29 i], [], []) := by kernel_rfl
def hI58 (ws : List ViewV) (ids : List Int) : Hp := heapOf ([rowB ws, iB ids] ++ [.dead]) hp0
theorem r58h (jds : List Int) : (execE Try.prog c58 [(31, .bool true), (32, pb 0 (i * 7)), (33, .agg ⟨vc x⟩), (39, iN (i + 1))] [] [(38, newI 5 (k + 1), [.put 1 .dead, .push (iB jds)])] 20 c58h (RB58 ws ids n k i g)).map (fun z => (look2 2 [0, 5] [8, 28, 29, 30] (z.1, z.2.1), z.2.2)) =
    some ((.normal, [rowB ws, iB jds], [(8, newI 1 (k + 1)), (28, newS 0 n), (29, iN n), (30, iN (i + 1))], true), [ltO i n true, ixO 0 n 22 i, ldO (hI58 ws ids).get 34 0 (i * 7) (.agg ⟨vc x⟩), nxt29 i], [],
      [(aAppend Try.prog (((hI58 ws ids).push (vB x)).push (.cells 3 [icell x.id] false)).get 5 [31, 31] [newI 1 k, newI 4 1], (newI 5 (k + 1), [.put 1 .dead, .push (iB jds)]))]) := by kernel_rfl
theorem r58i : (execE Try.prog c58 [] [] [] 20 c58i (stOf 41 g [(8, newI 0 k)] [iB ids])).map (fun z => (look2 1 [0] [4] (z.1, z.2.1), z.2.2)) = some ((.ret, [iB ids], [(4, newI 0 k)], true), [], [], []) := by kernel_rfl
end
end Go.Proofs.Ytiogdklmhpllfaa.LtA
namespace Go.Proofs.Ytiogdklmhpllfaa.LtA
open Go Go.Proofs Go.Proofs.Ytiogdklmhpllfaa.AI Go.RowKit Go.Proofs.Ytiogdklmhpllfaa.Sort

/-- The ids of those that are asked for, the lowest one first. -/
def idsP (p : ViewV → Bool) (vs : List ViewV) : List Int := (ssort ltV (vs.filter p)).map fun x => x.id
def EndsQ (ids : List Int) (e : Exit) (st : St) : Prop := e = .ret ∧ ∃ g, st = stOf 41 g [(4, rowIv ids 0)] (rowIO ids)
theorem fix3 {o ob : Blk} (ho : inertB o = true) (hob : inertB ob = true) (us : List ViewV) : ∀ r : List Blk, ∀ i, i < 3 → ∀ o', (o :: rowB us :: ob :: r)[i]? = some o' → Fixed 0 o' := by
  intro r i hi o' h
  match i, hi with
  | 0, _ => simp at h; subst h; exact inert_fixed ho 0
  | 1, _ => simp at h; subst h; exact inert_fixed (row_block us) 0
  | 2, _ => simp at h; subst h; exact inert_fixed hob 0
theorem fixOO {o ob : Blk} (ho : inertB o = true) (hob : inertB ob = true) : ∀ r : List Blk, ∀ i, i < 2 → ∀ o', (o :: ob :: r)[i]? = some o' → Fixed 0 o' := by
  intro r i hi o' h
  match i, hi with
  | 0, _ => simp at h; subst h; exact inert_fixed ho 0
  | 1, _ => simp at h; subst h; exact inert_fixed hob 0
theorem fixI (ids : List Int) : ∀ r : List Blk, ∀ i, i < 1 → ∀ o', (iB ids :: r)[i]? = some o' → Fixed 0 o' := fix11 (iB_inert ids)
section
variable (o ob : Blk) (f : FuncId) (n c : Nat)
def S58 (us : List ViewV) (i : Nat) (g : Nat → Value) : St := match us with
  | [] => N58 o ob f n c i g
  | _ :: _ => R58 o ob f n c us us.length i g
def T58 (us : List ViewV) (g : Nat → Value) : St := match us with
  | [] => stOf 41 g [(5, nilS)] []
  | _ :: _ => stOf 41 g [(5, newS 0 us.length)] [rowB us]
end
theorem S58_ne {o ob : Blk} {f : FuncId} {n c : Nat} {us : List ViewV} {i : Nat} {g : Nat → Value} (h : us ≠ []) : S58 o ob f n c us i g = R58 o ob f n c us us.length i g := by
  cases us with
  | nil => exact absurd rfl h
  | cons => rfl
theorem filt_step {p : ViewV → Bool} {vs : List ViewV} {i : Nat} {x : ViewV} (h : vs[i]? = some x) : (vs.take (i + 1)).filter p = (vs.take i).filter p ++ (bif p x then [x] else []) := by
  rw [List.take_add_one, h, List.filter_append]
  cases e : p x <;> simp [e]
theorem filtloop_fr {o ob : Blk} {f : FuncId} {p : ViewV → Bool} (ho : inertB o = true) (hob : inertB ob = true)
    (hN : ∀ x, c58 f [hcA x, pb 1 0] ((hN58 o ob).push (vB x)) = some (.bool (p x), heapOf [hB x] ((hN58 o ob).push (vB x))))
    (hR : ∀ ws x, c58 f [hcA x, pb 2 0] ((hR58 o ob ws).push (vB x)) = some (.bool (p x), heapOf [hB x] ((hR58 o ob ws).push (vB x))))
    (vs : List ViewV) (hn : vs.length < 1000000) (hrow : vs = [] ∨ ∃ ty ro, o = .cells ty (vrow vs) ro) (c : Nat) (W : Base) (g : Nat → Value) :
    FRwp Try.prog 41 W (.block 0 (.loop c58d)) (N58 o ob f vs.length c 0 g) (fun e st => e = .normal ∧ ∃ g, st = T58 (vs.filter p) g) := by
  refine FRwp.block ?_
  refine FRwp.loop (fun k st => ∃ i g, i ≤ vs.length ∧ k = vs.length - i ∧ st = S58 o ob f vs.length c ((vs.take i).filter p) i g) ?_ (k := vs.length) ⟨0, g, Nat.zero_le _, rfl, rfl⟩
  rintro k st ⟨i, g, hi, hk, rfl⟩
  have hfl : ((vs.take i).filter p).length ≤ i := by
    have := List.length_filter_le p (vs.take i)
    rw [List.length_take] at this
    omega
  cases h14 : decide (i < vs.length) with
  | false =>
    have hii : i = vs.length := by have := of_decide_eq_false h14; omega
    subst hii
    rw [List.take_length] at hfl ⊢
    generalize vs.filter p = us at *
    cases us with
    | nil =>
      refine FRwp.pieceY c58_ok follows 0 _ _ _ _ (n58x o ob f vs.length c vs.length g) (Met.cons (ltO_ok h14) Met.nil) MetH.nil MetE.nil s58d rfl rfl (noFix _) fun g' => .inr ⟨by simp, ?_⟩
      show (if (0 : Nat) = 0 then _ else _)
      rw [if_pos rfl]
      exact ⟨rfl, g', rfl⟩
    | cons w ws =>
      refine FRwp.pieceY c58_ok follows 1 _ _ _ _ (r58x o ob f vs.length c vs.length (w :: ws).length (w :: ws) g) (Met.cons (ltO_ok h14) Met.nil) MetH.nil MetE.nil s58d rfl rfl (fix1 _ []) fun g' => .inr ⟨by simp, ?_⟩
      show (if (0 : Nat) = 0 then _ else _)
      rw [if_pos rfl]
      exact ⟨rfl, g', rfl⟩
  | true =>
    have hlt := of_decide_eq_true h14
    obtain ⟨x, hx⟩ := some_at hlt
    have hr : ∃ ty ro, o = .cells ty (vrow vs) ro := by
      rcases hrow with h | h
      · rw [h] at hlt; simp at hlt
      · exact h
    have hs := filt_step (p := p) hx
    have a0 : RowAt (hN58 o ob) 0 vs := rowAt0 hr
    have b0 : ∀ ws, RowAt (hR58 o ob ws) 0 vs := fun ws => rowAt0 hr
    have met : ∀ {h : Hp}, RowAt h 0 vs → Met [ltO i vs.length true, ixO 0 vs.length c i, ldO h.get 34 0 (i * 7) (.agg ⟨vc x⟩), nxt29 i] := fun hat => Met.cons (ltO_ok h14) (Met.cons (ix_ok hlt) (Met.cons (at_ok hat hx) (Met.cons (wrap_up (by omega)) Met.nil)))
    cases hp : p x with
    | true =>
      rw [hp] at hs
      simp only [cond_true] at hs
      have fin : ∀ {us' : List ViewV} {g' : Nat → Value} {st' : St}, us' = (vs.take i).filter p ++ [x] → st' = R58 o ob f vs.length c us' us'.length (i + 1) g' → ∃ k', k' < k ∧ ∃ i g, i ≤ vs.length ∧ k' = vs.length - i ∧ st' = S58 o ob f vs.length c ((vs.take i).filter p) i g := by
        intro us' g' st' h1 h2
        refine ⟨vs.length - (i + 1), by omega, i + 1, g', by omega, rfl, ?_⟩
        rw [hs, ← h1, S58_ne (by rw [h1]; simp), h2]
      have hN' := hN x
      rw [hp] at hN'
      generalize (vs.take i).filter p = us at *
      cases us with
      | nil => exact FRwp.pieceY c58_ok follows 3 _ _ _ _ (n58t o ob f vs.length c i x g) (met a0) (MetH.cons hN' MetH.nil) MetE.nil s58d rfl rfl (fix3 ho hob _ []) fun g' => .inl ⟨rfl, fin (us' := [x]) rfl rfl⟩
      | cons w ws =>
        generalize hus : w :: ws = us at *
        have hun : us ≠ [] := by rw [← hus]; simp
        rw [S58_ne hun]
        have hR' := hR us x
        rw [hp] at hR'
        have e1 : (us ++ [x]).length = us.length + 1 := by simp
        refine FRwp.pieceY c58_ok follows 3 _ _ _ _ (r58t o ob f vs.length c i us.length us (us ++ [x]) x g) (met (b0 us)) (MetH.cons hR' MetH.nil) (MetE.cons (app_one ?_ ?_ rfl (by omega)) MetE.nil) s58d rfl rfl (fix3 ho hob _ []) fun g' => .inl ⟨rfl, fin (us' := us ++ [x]) rfl (by rw [e1])⟩
        · rw [Hp.get_push, if_neg (by show (1 : Nat) ≠ 6; omega), Hp.get_push, if_neg (by show (1 : Nat) ≠ 5; omega), Hp.get_push, if_neg (by show (1 : Nat) ≠ 4; omega)]
          unfold hR58; rw [heapOf0_get]; rfl
        · rw [Hp.get_push, if_pos (by show (6 : Nat) = 6; rfl)]; rfl
    | false =>
      rw [hp] at hs
      simp only [cond_false, List.append_nil] at hs
      have hN' := hN x
      rw [hp] at hN'
      generalize hus : (vs.take i).filter p = us at *
      cases us with
      | nil => exact FRwp.pieceY c58_ok follows 2 _ _ _ _ (n58f o ob f vs.length c i x g) (met a0) (MetH.cons hN' MetH.nil) MetE.nil s58d rfl rfl (fixOO ho hob []) fun g' => .inl ⟨rfl, vs.length - (i + 1), by omega, i + 1, g', by omega, rfl, by rw [hs]; rfl⟩
      | cons w ws =>
        have hR' := hR (w :: ws) x
        rw [hp] at hR'
        exact FRwp.pieceY c58_ok follows 3 _ _ _ _ (r58f o ob f vs.length c i (w :: ws).length (w :: ws) x g) (met (b0 _)) (MetH.cons hR' MetH.nil) MetE.nil s58d rfl rfl (fix3 ho hob _ []) fun g' => .inl ⟨rfl, vs.length - (i + 1), by omega, i + 1, g', by omega, rfl, by rw [hs]; rfl⟩
def U58 (ws : List ViewV) (ids : List Int) (n i : Nat) (g : Nat → Value) : St := match ids with
  | [] => NB58 ws n i g
  | _ :: _ => RB58 ws ids n ids.length i g
theorem U58_ne {ws : List ViewV} {ids : List Int} {n i : Nat} {g : Nat → Value} (h : ids ≠ []) : U58 ws ids n i g = RB58 ws ids n ids.length i g := by
  cases ids with
  | nil => exact absurd rfl h
  | cons => rfl
theorem idloop_fr (ws : List ViewV) (hw : ws ≠ []) (hn : ws.length < 1000000) (W : Base) (g : Nat → Value) :
    FRwp Try.prog 41 W (.block 2 (.loop c58h)) (NB58 ws ws.length 0 g) (fun e st => e = .normal ∧ ∃ g, st = stOf 41 g [(8, newI 0 ws.length)] [iB (ws.map fun x => x.id)]) := by
  refine FRwp.block ?_
  refine FRwp.loop (fun k st => ∃ i g, i ≤ ws.length ∧ k = ws.length - i ∧ st = U58 ws ((ws.take i).map fun x => x.id) ws.length i g) ?_ (k := ws.length) ⟨0, g, Nat.zero_le _, rfl, rfl⟩
  rintro k st ⟨i, g, hi, hk, rfl⟩
  cases h31 : decide (i < ws.length) with
  | false =>
    have hii : i = ws.length := by have := of_decide_eq_false h31; omega
    subst hii
    have hml : (ws.map fun x => x.id).length = ws.length := List.length_map _
    rw [List.take_length, U58_ne (fun e => hw (List.map_eq_nil_iff.1 e))]
    generalize (ws.map fun x => x.id) = ids at *
    rw [hml]
    generalize ws.length = n at *
    refine FRwp.pieceY c58_ok follows 1 _ _ _ _ (r58hx n n n ws ids g) (Met.cons (ltO_ok h31) Met.nil) MetH.nil MetE.nil s58h rfl rfl (fixI _ []) fun g' => .inr ⟨by simp, ?_⟩
    show (if (2 : Nat) = 2 then _ else _)
    rw [if_pos rfl]
    exact ⟨rfl, g', rfl⟩
  | true =>
    have hlt := of_decide_eq_true h31
    obtain ⟨x, hx⟩ := some_at hlt
    have hs : (ws.take (i + 1)).map (fun x => x.id) = (ws.take i).map (fun x => x.id) ++ [x.id] := by rw [List.take_add_one, hx]; simp
    have fx2 : ∀ ids : List Int, ∀ r : List Blk, ∀ i, i < 2 → ∀ o', (rowB ws :: iB ids :: r)[i]? = some o' → Fixed 0 o' := fun ids => fixOO (row_block ws) (iB_inert ids)
    have il : ((ws.take i).map fun x => x.id).length = i := by simp; omega
    have met : ∀ {h : Hp}, RowAt h 0 ws → Met [ltO i ws.length true, ixO 0 ws.length 22 i, ldO h.get 34 0 (i * 7) (.agg ⟨vc x⟩), nxt29 i] := fun hat => Met.cons (ltO_ok h31) (Met.cons (ix_ok hlt) (Met.cons (at_ok hat hx) (Met.cons (wrap_up (by omega)) Met.nil)))
    have fin : ∀ {jds : List Int} {g' : Nat → Value} {st' : St}, jds = (ws.take i).map (fun x => x.id) ++ [x.id] → st' = RB58 ws jds ws.length jds.length (i + 1) g' → ∃ k', k' < k ∧ ∃ i g, i ≤ ws.length ∧ k' = ws.length - i ∧ st' = U58 ws ((ws.take i).map fun x => x.id) ws.length i g := by
      intro jds g' st' h1 h2
      refine ⟨ws.length - (i + 1), by omega, i + 1, g', by omega, rfl, ?_⟩
      rw [hs, ← h1, U58_ne (by rw [h1]; simp), h2]
    generalize (ws.take i).map (fun x => x.id) = ids at *
    cases ids with
    | nil => exact FRwp.pieceY c58_ok follows 2 _ _ _ _ (n58h ws.length i ws x g) (met (hW_at ws)) MetH.nil MetE.nil s58h rfl rfl (fx2 _ []) fun g' => .inl ⟨rfl, fin (jds := [x.id]) rfl rfl⟩
    | cons w jds =>
      generalize hids : w :: jds = ids at *
      have hun : ids ≠ [] := by rw [← hids]; simp
      rw [U58_ne hun]
      have e1 : (ids ++ [x.id]).length = ids.length + 1 := by simp
      have hat : RowAt (hI58 ws ids) 0 ws := .of (ty := 34) (ro := false) (by unfold hI58; rw [heapOf0_get]; rfl)
      refine FRwp.pieceY c58_ok follows 2 _ _ _ _ (r58h ws.length i ids.length ws ids x g (ids ++ [x.id])) (met hat) MetH.nil (MetE.cons (app_int ?_ ?_ rfl (by omega)) MetE.nil) s58h rfl rfl (fx2 _ []) fun g' => .inl ⟨rfl, fin (jds := ids ++ [x.id]) rfl (by rw [e1])⟩
      · rw [Hp.get_push, if_neg (by show (1 : Nat) ≠ 4; omega), Hp.get_push, if_neg (by show (1 : Nat) ≠ 3; omega)]
        unfold hI58; rw [heapOf0_get]; rfl
      · rw [Hp.get_push, if_pos (by show (4 : Nat) = 4; rfl)]
theorem rise_fr {o ob : Blk} {f : FuncId} {p : ViewV → Bool} (ho : inertB o = true) (hob : inertB ob = true)
    (hN : ∀ x, c58 f [hcA x, pb 1 0] ((hN58 o ob).push (vB x)) = some (.bool (p x), heapOf [hB x] ((hN58 o ob).push (vB x))))
    (hR : ∀ ws x, c58 f [hcA x, pb 2 0] ((hR58 o ob ws).push (vB x)) = some (.bool (p x), heapOf [hB x] ((hR58 o ob ws).push (vB x))))
    (hK : ∀ x, p x = true → Kn x) (vs : List ViewV) (hn : vs.length < 1000000) (hrow : vs = [] ∨ ∃ ty ro, o = .cells ty (vrow vs) ro) (c : Nat) (W : Base) :
    FRwp Try.prog 41 W code58 ⟨tmsOf [rowS 0 vs.length c, Cl f 1] 0 .leaf, heapOf [o, ob, .dead] hp0, []⟩ (EndsQ (idsP p vs)) := by
  refine FRwp.seq (Q1 := fun x st => x = .normal ∧ ∃ g, st = stOf 41 g [(0, rowS 0 vs.length c), (1, Cl f 1)] [o, ob]) (FRwp.pieceY c58_ok follows 2 _ _ _ _ (r58a o ob f vs.length c) Met.nil MetH.nil MetE.nil s58a rfl rfl (fixOO ho hob []) fun g => ⟨rfl, g, rfl⟩) ?_ (fun x st hne hq => absurd hq.1 hne)
  rintro st ⟨-, g, rfl⟩
  refine FRwp.seq (Q1 := fun x st => x = .normal ∧ ∃ g, st = stOf 41 g [(0, rowS 0 vs.length c), (1, Cl f 1), (5, nilS)] [o, ob]) (FRwp.pieceY c58_ok follows 2 _ _ _ _ (r58b o ob f vs.length c g) Met.nil MetH.nil MetE.nil s58b rfl rfl (fixOO ho hob []) fun g => ⟨rfl, g, rfl⟩) ?_ (fun x st hne hq => absurd hq.1 hne)
  rintro st ⟨-, g, rfl⟩
  refine FRwp.seq (Q1 := fun x st => x = .normal ∧ ∃ g, st = T58 (vs.filter p) g) ?_ ?_ (fun x st hne hq => absurd hq.1 hne)
  · refine FRwp.seq (Q1 := fun x st => x = .normal ∧ ∃ g, st = N58 o ob f vs.length c 0 g) (FRwp.pieceY c58_ok follows 2 _ _ _ _ (r58c o ob f vs.length c g) Met.nil MetH.nil MetE.nil s58c rfl rfl (fixOO ho hob []) fun g => ⟨rfl, g, rfl⟩) ?_ (fun x st hne hq => absurd hq.1 hne)
    rintro st ⟨-, g, rfl⟩
    exact filtloop_fr ho hob hN hR vs hn hrow c W g
  rintro st ⟨-, g, rfl⟩
  have hfk : ∀ z ∈ vs.filter p, Kn z := fun z hz => hK z (List.mem_filter.1 hz).2
  have hfl : (vs.filter p).length ≤ vs.length := List.length_filter_le _ _
  unfold idsP
  generalize vs.filter p = us at *
  cases us with
  | nil => exact FRwp.piece c58n_ok follows 0 _ _ _ _ (n58r g) Met.nil s58r rfl rfl rfl (noFix _) fun g => ⟨rfl, g, rfl⟩
  | cons w ws =>
    generalize hus : w :: ws = us at *
    have hT : T58 us g = stOf 41 g [(5, newS 0 us.length)] [rowB us] := by rw [← hus]; rfl
    rw [hT]
    have hsl : (ssort ltV us).length = us.length := len_ssort
    have hcall : c58 78 [newS 0 us.length, Fc] (hW us) = some (vU, (hW us).put 0 (rowB (ssort ltV us))) := by rw [c58_78]; exact G78_of rfl (by omega) hfk (hW_get us)
    refine FRwp.seq (Q1 := fun x st => x = .normal ∧ ∃ g, st = stOf 41 g [(5, newS 0 us.length)] [rowB (ssort ltV us)]) (FRwp.pieceY c58_ok follows 1 _ _ _ _ (r58e us.length us (ssort ltV us) g) Met.nil (MetH.cons hcall MetH.nil) MetE.nil s58e rfl rfl (fix1 _ []) fun g => ⟨rfl, g, rfl⟩) ?_ (fun x st hne hq => absurd hq.1 hne)
    rintro st ⟨-, g, rfl⟩
    refine FRwp.seq (Q1 := fun x st => x = .normal ∧ ∃ g, st = stOf 41 g [(5, newS 0 us.length), (8, nilS)] [rowB (ssort ltV us)]) (FRwp.pieceY c58_ok follows 1 _ _ _ _ (r58g0 us.length (ssort ltV us) g) Met.nil MetH.nil MetE.nil s58f rfl rfl (fix1 _ []) fun g => ⟨rfl, g, rfl⟩) ?_ (fun x st hne hq => absurd hq.1 hne)
    rintro st ⟨-, g, rfl⟩
    have hsn : ssort ltV us ≠ [] := fun h => by rw [h] at hsl; rw [← hus] at hsl; simp at hsl
    refine FRwp.seq (Q1 := fun x st => x = .normal ∧ ∃ g, st = stOf 41 g [(8, newI 0 us.length)] [iB ((ssort ltV us).map fun x => x.id)]) ?_ ?_ (fun x st hne hq => absurd hq.1 hne)
    · refine FRwp.seq (Q1 := fun x st => x = .normal ∧ ∃ g, st = NB58 (ssort ltV us) us.length 0 g) (FRwp.pieceY c58_ok follows 1 _ _ _ _ (r58g us.length (ssort ltV us) g) Met.nil MetH.nil MetE.nil s58g rfl rfl (fix1 _ []) fun g => ⟨rfl, g, rfl⟩) ?_ (fun x st hne hq => absurd hq.1 hne)
      rintro st ⟨-, g, rfl⟩
      have := idloop_fr (ssort ltV us) hsn (by omega) W g
      rw [hsl] at this
      exact this
    · rintro st ⟨-, g, rfl⟩
      refine FRwp.pieceY c58_ok follows 1 _ _ _ _ (r58i us.length ((ssort ltV us).map fun x => x.id) g) Met.nil MetH.nil MetE.nil s58i rfl rfl (fixI _ []) fun g => ⟨rfl, g, ?_⟩
      have hml : ((ssort ltV us).map fun x => x.id).length = us.length := by rw [List.length_map, hsl]
      generalize (ssort ltV us).map (fun x => x.id) = ids at *
      cases ids with
      | nil => rw [← hus] at hml; simp at hml
      | cons i ids => show _ = stOf 41 g [(4, newI 0 (i :: ids).length)] [iB (i :: ids)]; rw [hml]
theorem rise_nil {ob : Blk} (hob : inertB ob = true) (f : FuncId) (p : ViewV → Bool) (W : Base) : FRwp Try.prog 41 W code58 ⟨tmsOf [nilS, Cl f 0] 0 .leaf, heapOf [ob, .dead] hp0, []⟩ (EndsQ (idsP p [])) :=
  FRwp.piece c58n_ok follows 0 _ _ _ _ (n58 ob f) Met.nil (by kernel_rfl) rfl rfl rfl (noFix _) fun g => ⟨rfl, g, rfl⟩
/-- What a function value is of: its answers at the two heaps of rising's own frame. -/
structure Asks (f : FuncId) (own : ViewV) (p : ViewV → Bool) : Prop where
  known : ∀ x, p x = true → Kn x
  one : ∀ o x, c58 f [hcA x, pb 1 0] ((hN58 o (.cells 23 (hcL own) true)).push (vB x)) = some (.bool (p x), heapOf [hB x] ((hN58 o (.cells 23 (hcL own) true)).push (vB x)))
  two : ∀ o ws x, c58 f [hcA x, pb 2 0] ((hR58 o (.cells 23 (hcL own) true) ws).push (vB x)) = some (.bool (p x), heapOf [hB x] ((hR58 o (.cells 23 (hcL own) true) ws).push (vB x)))
theorem asks_below (own : ViewV) : Asks 59 own (fun x => ltV x own) where
  known x h := by
    unfold ltV less at h
    exact (Bool.and_eq_true_iff.1 h).1
  one o x := by kernel_rfl
  two o ws x := by kernel_rfl
theorem asks_above (own : ViewV) : Asks 60 own (fun x => ltV own x) where
  known x h := by
    unfold ltV less at h
    exact (Bool.and_eq_true_iff.1 (Bool.and_eq_true_iff.1 h).2).1
  one o x := by kernel_rfl
  two o ws x := by kernel_rfl
open Classical in
noncomputable def g58 (f : FuncId) (own : ViewV) (p : ViewV → Bool) (vs : List ViewV) : HeapFn := fun args hp => match args with
  | [s, v] => if TN vs s hp ∧ ∃ b2, v = Cl f b2 ∧ hp.get b2 = some (hB own) ∧ (∀ b n c, s = rowS b n c → b ≠ b2) then some (rowIv (idsP p vs) hp.sz, heapOf (rowIO (idsP p vs) ++ [.dead]) hp) else none
  | _ => none
theorem hk58 {f : FuncId} {own : ViewV} {p : ViewV → Bool} (ha : Asks f own p) (vs : List ViewV) (hn : vs.length < 1000000) : CallGoal Try.prog 58 (g58 f own p vs) := scan_goal follows Try.func58 body58 (by kernel_rfl) fun args hp v hp' h hk => by
  unfold g58 at h
  rw [ntmps58]
  split at h
  case h_2 => cases h
  rename_i s v
  split at h
  case isFalse => cases h
  rename_i hT
  cases h
  obtain ⟨hT, b2, rfl, hb2, hne⟩ := hT
  have iB2 : inertB (hB own) = true := rfl
  have hq : inertB (.cells 23 (hcL own) true) = true := rfl
  have run : ∃ (K0 : List Nat), nodupB K0 = true ∧ (∀ b ∈ K0, ∃ o, hp.get b = some o ∧ startOk o = true) ∧ ([s, Cl f b2]).all ok3 = true ∧ ∀ W, FRwp Try.prog 41 W code58 ⟨tmsOf ([s, Cl f b2].map (sh3 K0 0)) 0 .leaf, startHp K0 hp, []⟩ (EndsQ (idsP p vs)) := by
    rcases hT with ⟨rfl, rfl⟩ | ⟨b, c, ob, rfl, hb, hi, hr⟩
    · refine ⟨[b2], rfl, fun b' hb' => ?_, rfl, fun W => ?_⟩
      · have : b' = b2 := by simpa using hb'
        subst this
        exact ⟨_, hb2, inert_start iB2⟩
      · have e1 : [nilS, Cl f b2].map (sh3 [b2] 0) = [nilS, Cl f 0] := by simp [sh3, sh2, sh1, rho, idxOf, nilS, Cl, pb]
        rw [e1, start1 hb2 iB2]
        exact rise_nil rfl f p W
    · have hbn : b ≠ b2 := hne b vs.length c rfl
      have hbe : Nat.beq b b2 = false := by
        cases e : Nat.beq b b2 with
        | false => rfl
        | true => exact absurd (Nat.eq_of_beq_eq_true e) hbn
      refine ⟨[b, b2], by simp [nodupB, hbe], fun b' hb' => ?_, rfl, fun W => ?_⟩
      · have : b' = b ∨ b' = b2 := by simpa using hb'
        rcases this with rfl | rfl
        · exact ⟨ob, hb, inert_start hi⟩
        · exact ⟨_, hb2, inert_start iB2⟩
      · have e1 : [rowS b vs.length c, Cl f b2].map (sh3 [b, b2] 0) = [rowS 0 vs.length c, Cl f 1] := by simp [sh3, sh2, sh1, rho, idxOf, rowS, Cl, pb, hbe]
        rw [e1, start2 hb hb2 hi iB2]
        exact rise_fr (ro_inert hi) hq (fun x => ha.one _ x) (fun ws x => ha.two _ ws x) ha.known vs hn (ro_row hr) c W
  obtain ⟨K0, n0, hst, hall, hrun⟩ := run
  unfold EndsQ at hrun
  generalize idsP p vs = ids at *
  cases ids with
  | nil =>
    refine ⟨K0, [], [], rfl, rfl, n0, rfl, hst, hall, (by simp), fun W => FRwp.mono (hrun W) fun e st q => ?_⟩
    obtain ⟨rfl, g, rfl⟩ := q
    exact ⟨.inr rfl, rfl, _, q58 _ _ g, rfl, (fun b hb => by cases hb), by simp [sh3, sh2, sh1, rowIv, nilS], rfl⟩
  | cons i ids =>
    refine ⟨K0, [0], [iB (i :: ids)], rfl, rfl, n0, rfl, hst, hall, (by simp), fun W => FRwp.mono (hrun W) fun e st q => ?_⟩
    obtain ⟨rfl, g, rfl⟩ := q
    have hg : (stOf 41 g [(4, rowIv (i :: ids) 0)] [iB (i :: ids)]).hp.get 0 = some (iB (i :: ids)) := by show (heapOf _ hp0).get 0 = _; rw [heapOf0_get]; rfl
    refine ⟨.inr rfl, rfl, _, q58 _ _ g, rfl, fun b' hb' => ?_, by simp [sh3, sh2, sh1, rho, idxOf, rowIv, newI], ?_⟩
    · have : b' = 0 := by simpa using hb'
      subst this
      exact ⟨_, hg, ok2_inert (iB_inert _), rfl⟩
    · simp only [outOf, List.map_cons, List.map_nil]
      show [iB (i :: ids)] = [shBlk [0] hp.sz (((stOf 41 g [(4, rowIv (i :: ids) 0)] [iB (i :: ids)]).hp.get 0).getD .dead)]
      rw [hg]
      exact congrArg (fun z => [z]) (inert_shBlk (iB_inert _) [0] hp.sz).symm
end Go.Proofs.Ytiogdklmhpllfaa.LtA
namespace Go.Proofs.Ytiogdklmhpllfaa.LtA
open Go Go.Proofs Go.Proofs.Ytiogdklmhpllfaa.AI Go.RowKit Go.Proofs.Ytiogdklmhpllfaa.Sort

def ownI (ids : List Int) : Blk := match ids with
  | [] => .dead
  | _ :: _ => iB ids
theorem pad_rowI {k : HeapFn} {args : List Value} {hp : Hp} {v : Value} {ids : List Int} (h : k args hp = some (v, heapOf (rowIO ids ++ [.dead]) hp)) : padF k args hp = some (v, heapOf [ownI ids, .dead] hp) := by
  cases ids with
  | nil => exact pad_one h
  | cons => exact pad_two h
/-! ### Below -/
def pr24 (own x : ViewV) : Bool := ltV x own
theorem asks24 (own : ViewV) : Asks 59 own (pr24 own) := asks_below own
noncomputable def E24 (own : ViewV) (vs : List ViewV) : Ext := extG (extH Try.prog []) [(58, g58 59 own (pr24 own) vs)]
noncomputable def c24 (own : ViewV) (vs : List ViewV) : CallF := aCall Try.prog (E24 own vs) 5
theorem c24_ok (own : ViewV) (vs : List ViewV) (hn : vs.length < 1000000) : CallOk Try.prog (c24 own vs) := aCall_sound (extG_ok (extH_ok .nil) (.cons (hk58 (asks24 own) vs hn) .nil)) follows 5
noncomputable def fb24 : Code := (Try.f24.body).getD .skip
theorem body24 : Try.f24.body = some fb24 := by kernel_rfl
theorem ntmps24 : Try.f24.ntmps = 8 := by kernel_rfl
theorem s24 : codeSafe Try.prog 8 fb24 = true := by kernel_rfl
theorem q24 (v : Value) (O : List Blk) (g : Nat → Value) : retVal Try.prog Try.f24 (stOf 8 g [(4, v)] O) = some v := by kernel_rfl
section
variable (o : Blk) (own : ViewV) (vs : List ViewV) (n c k : Nat) (ids : List Int)
theorem r24t : (execE Try.prog (c24 own vs) [] [(7, newI 3 k, [iB ids, .dead])] [] 20 fb24 ⟨tmsOf [rowS 0 n c, hcA own] 0 .leaf, heapOf [o, .dead] hp0, []⟩).map (fun z => (look2 1 [3] [4] (z.1, z.2.1), z.2.2)) =
    some ((.ret, [iB ids], [(4, newI 0 k)], true), [], [(c24 own vs 58 [rowS 0 n c, Cl 59 2] (heapOf [o, .dead, hB own] hp0), (newI 3 k, heapOf [iB ids, .dead] (heapOf [o, .dead, hB own] hp0)))], []) := by kernel_rfl
theorem r24f : (execE Try.prog (c24 own vs) [] [(7, nilS, [.dead])] [] 20 fb24 ⟨tmsOf [rowS 0 n c, hcA own] 0 .leaf, heapOf [o, .dead] hp0, []⟩).map (fun z => (look2 0 [] [4] (z.1, z.2.1), z.2.2)) =
    some ((.ret, [], [(4, nilS)], true), [], [(c24 own vs 58 [rowS 0 n c, Cl 59 2] (heapOf [o, .dead, hB own] hp0), (nilS, heapOf [.dead] (heapOf [o, .dead, hB own] hp0)))], []) := by kernel_rfl
theorem r24n : (execE Try.prog (c24 own vs) [] [(7, nilS, [.dead])] [] 20 fb24 ⟨tmsOf [nilS, hcA own] 0 .leaf, heapOf [.dead] hp0, []⟩).map (fun z => (look2 0 [] [4] (z.1, z.2.1), z.2.2)) =
    some ((.ret, [], [(4, nilS)], true), [], [(c24 own vs 58 [nilS, Cl 59 1] (heapOf [.dead, hB own] hp0), (nilS, heapOf [.dead] (heapOf [.dead, hB own] hp0)))], []) := by kernel_rfl
end
open Classical in
theorem c24_58 {own : ViewV} {vs : List ViewV} {s : Value} {b2 : Nat} {hp : Hp} (hT : TN vs s hp) (hb : hp.get b2 = some (hB own)) (hne : ∀ b n c, s = rowS b n c → b ≠ b2) : c24 own vs 58 [s, Cl 59 b2] hp = some (rowIv (idsP (pr24 own) vs) hp.sz, heapOf (rowIO (idsP (pr24 own) vs) ++ [.dead]) hp) := by
  show aCall Try.prog (E24 own vs) 5 58 _ _ = _
  rw [aCall]
  have hE : E24 own vs 58 = some fun _ args h => g58 59 own (pr24 own) vs args h := rfl
  rw [hE]
  show (if TN vs s hp ∧ ∃ b, Cl 59 b2 = Cl 59 b ∧ hp.get b = some (hB own) ∧ (∀ b' n c, s = rowS b' n c → b' ≠ b) then _ else _) = _
  rw [if_pos ⟨hT, b2, rfl, hb, hne⟩]
def Ends24 (ids : List Int) (e : Exit) (st : St) : Prop := e = .ret ∧ ∃ g, st = stOf 8 g [(4, rowIv ids 0)] (rowIO ids)
theorem fr24 (o : Blk) (ho : inertB o = true) (own : ViewV) (vs : List ViewV) (hn : vs.length < 1000000) (hrow : vs = [] ∨ ∃ ty ro, o = .cells ty (vrow vs) ro) (c : Nat) (W : Base) :
    FRwp Try.prog 8 W fb24 ⟨tmsOf [rowS 0 vs.length c, hcA own] 0 .leaf, heapOf [o, .dead] hp0, []⟩ (Ends24 (idsP (pr24 own) vs)) := by
  have g0 : (heapOf [o, .dead, hB own] hp0).get 0 = some o := by rw [heapOf0_get]; rfl
  have h := c24_58 (own := own) (vs := vs) (s := rowS 0 vs.length c) (b2 := 2) (hp := heapOf [o, .dead, hB own] hp0) (.inr ⟨0, c, o, rfl, g0, ho, hrow⟩) (by rw [heapOf0_get]; rfl) (fun b n c' e => by simp [rowS] at e; omega)
  generalize idsP (pr24 own) vs = ids at *
  cases ids with
  | nil => exact FRwp.pieceY (c24_ok own vs hn) follows 0 _ _ _ _ (r24f o own vs vs.length c) Met.nil (MetH.cons h MetH.nil) MetE.nil s24 rfl rfl (noFix _) fun g => ⟨rfl, g, rfl⟩
  | cons i ids => exact FRwp.pieceY (c24_ok own vs hn) follows 1 _ _ _ _ (r24t o own vs vs.length c (i :: ids).length (i :: ids)) Met.nil (MetH.cons h MetH.nil) MetE.nil s24 rfl rfl (fixI _ []) fun g => ⟨rfl, g, rfl⟩
theorem frn24 (own : ViewV) (W : Base) : FRwp Try.prog 8 W fb24 ⟨tmsOf [nilS, hcA own] 0 .leaf, heapOf [.dead] hp0, []⟩ (Ends24 (idsP (pr24 own) [])) := by
  have h := c24_58 (own := own) (vs := []) (s := nilS) (b2 := 1) (hp := heapOf [.dead, hB own] hp0) (.inl ⟨rfl, rfl⟩) (by rw [heapOf0_get]; rfl) (fun b n c' e => by simp [nilS, rowS] at e)
  exact FRwp.pieceY (c24_ok own [] (by simp)) follows 0 _ _ _ _ (r24n own []) Met.nil (MetH.cons h MetH.nil) MetE.nil s24 rfl rfl (noFix _) fun g => ⟨rfl, g, rfl⟩
open Classical in
noncomputable def g24 (vs : List ViewV) : HeapFn := fun args hp => match args with
  | [s, .agg cs] => match cs.toList with
    | [.bool n, .int .i64 t, .int .i64 o, .int .i64 r, .int .i64 d, .int .i64 i] =>
      if TN vs s hp then some (rowIv (idsP (pr24 ⟨0, n, t, o, r, d, i⟩) vs) hp.sz, heapOf (rowIO (idsP (pr24 ⟨0, n, t, o, r, d, i⟩) vs) ++ [.dead]) hp) else none
    | _ => none
  | _ => none
theorem hk24 (vs : List ViewV) (hn : vs.length < 1000000) : CallGoal Try.prog 24 (g24 vs) := scan_goal follows Try.func24 body24 (by kernel_rfl) fun args hp v hp' h hk => by
  unfold g24 at h
  rw [ntmps24]
  split at h
  case h_2 => cases h
  rename_i s cs
  split at h
  case h_2 => cases h
  rename_i n t o r d i hcs
  obtain rfl := arr_of hcs
  generalize hy : (⟨0, n, t, o, r, d, i⟩ : ViewV) = own at h
  have eh : Value.agg [.bool n, .int .i64 t, .int .i64 o, .int .i64 r, .int .i64 d, .int .i64 i].toArray = hcA own := by rw [← hy]; rfl
  rw [eh]
  split at h
  case isFalse => cases h
  rename_i hT
  cases h
  have run : ∃ (K0 : List Nat), nodupB K0 = true ∧ (∀ b ∈ K0, ∃ o, hp.get b = some o ∧ startOk o = true) ∧ ([s, hcA own]).all ok3 = true ∧ ∀ W, FRwp Try.prog 8 W fb24 ⟨tmsOf ([s, hcA own].map (sh3 K0 0)) 0 .leaf, startHp K0 hp, []⟩ (Ends24 (idsP (pr24 own) vs)) := by
    rcases hT with ⟨rfl, rfl⟩ | ⟨b, c, ob, rfl, hb, hi, hr⟩
    · refine ⟨[], rfl, (fun b hb => by cases hb), rfl, fun W => ?_⟩
      have e1 : [nilS, hcA own].map (sh3 [] 0) = [nilS, hcA own] := by simp [sh3, sh2, sh1, nilS, hcA]
      rw [e1]
      exact frn24 own W
    · refine ⟨[b], rfl, fun b' hb' => ?_, rfl, fun W => ?_⟩
      · have : b' = b := by simpa using hb'
        subst this
        exact ⟨ob, hb, inert_start hi⟩
      · have e1 : [rowS b vs.length c, hcA own].map (sh3 [b] 0) = [rowS 0 vs.length c, hcA own] := by simp [sh3, sh2, sh1, rho, idxOf, rowS, hcA]
        rw [e1, start1 hb hi]
        exact fr24 (roBlk ob) (ro_inert hi) own vs hn (ro_row hr) c W
  obtain ⟨K0, n0, hst, hall, hrun⟩ := run
  unfold Ends24 at hrun
  generalize idsP (pr24 own) vs = ids at *
  cases ids with
  | nil =>
    refine ⟨K0, [], [], rfl, rfl, n0, rfl, hst, hall, (by simp), fun W => FRwp.mono (hrun W) fun e st q => ?_⟩
    obtain ⟨rfl, g, rfl⟩ := q
    exact ⟨.inr rfl, rfl, _, q24 _ _ g, rfl, (fun b hb => by cases hb), by simp [sh3, sh2, sh1, rowIv, nilS], rfl⟩
  | cons i ids =>
    refine ⟨K0, [0], [iB (i :: ids)], rfl, rfl, n0, rfl, hst, hall, (by simp), fun W => FRwp.mono (hrun W) fun e st q => ?_⟩
    obtain ⟨rfl, g, rfl⟩ := q
    have hg : (stOf 8 g [(4, rowIv (i :: ids) 0)] [iB (i :: ids)]).hp.get 0 = some (iB (i :: ids)) := by show (heapOf _ hp0).get 0 = _; rw [heapOf0_get]; rfl
    refine ⟨.inr rfl, rfl, _, q24 _ _ g, rfl, fun b' hb' => ?_, by simp [sh3, sh2, sh1, rho, idxOf, rowIv, newI], ?_⟩
    · have : b' = 0 := by simpa using hb'
      subst this
      exact ⟨_, hg, ok2_inert (iB_inert _), rfl⟩
    · simp only [outOf, List.map_cons, List.map_nil]
      show [iB (i :: ids)] = [shBlk [0] hp.sz (((stOf 8 g [(4, rowIv (i :: ids) 0)] [iB (i :: ids)]).hp.get 0).getD .dead)]
      rw [hg]
      exact congrArg (fun z => [z]) (inert_shBlk (iB_inert _) [0] hp.sz).symm
noncomputable def G24 : HeapFn := padF (atRow (fun _ => True) g24)
theorem hkG24 : CallGoal Try.prog 24 G24 := pad_goal (atRow_goal fun vs hn _ => hk24 vs hn)
open Classical in
theorem G24_of {vs : List ViewV} {s : Value} {hp : Hp} (own : ViewV) (h : TN vs s hp) (hn : vs.length < 1000000) : G24 [s, hcA own] hp = some (rowIv (idsP (pr24 own) vs) hp.sz, heapOf [ownI (idsP (pr24 own) vs), .dead] hp) := by
  unfold G24
  refine pad_rowI ?_
  rw [atRow_of h hn trivial]
  show (if TN vs s hp then _ else _) = _
  rw [if_pos h]
  rfl
/-! ### Above -/
def pr25 (own x : ViewV) : Bool := ltV own x
theorem asks25 (own : ViewV) : Asks 60 own (pr25 own) := asks_above own
noncomputable def E25 (own : ViewV) (vs : List ViewV) : Ext := extG (extH Try.prog []) [(58, g58 60 own (pr25 own) vs)]
noncomputable def c25 (own : ViewV) (vs : List ViewV) : CallF := aCall Try.prog (E25 own vs) 5
theorem c25_ok (own : ViewV) (vs : List ViewV) (hn : vs.length < 1000000) : CallOk Try.prog (c25 own vs) := aCall_sound (extG_ok (extH_ok .nil) (.cons (hk58 (asks25 own) vs hn) .nil)) follows 5
noncomputable def fb25 : Code := (Try.f25.body).getD .skip
theorem body25 : Try.f25.body = some fb25 := by kernel_rfl
theorem ntmps25 : Try.f25.ntmps = 8 := by kernel_rfl
theorem s25 : codeSafe Try.prog 8 fb25 = true := by kernel_rfl
theorem q25 (v : Value) (O : List Blk) (g : Nat → Value) : retVal Try.prog Try.f25 (stOf 8 g [(4, v)] O) = some v := by kernel_rfl
section
variable (o : Blk) (own : ViewV) (vs : List ViewV) (n c k : Nat) (ids : List Int)
theorem r25t : (execE Try.prog (c25 own vs) [] [(7, newI 3 k, [iB ids, .dead])] [] 20 fb25 ⟨tmsOf [rowS 0 n c, hcA own] 0 .leaf, heapOf [o, .dead] hp0, []⟩).map (fun z => (look2 1 [3] [4] (z.1, z.2.1), z.2.2)) =
    some ((.ret, [iB ids], [(4, newI 0 k)], true), [], [(c25 own vs 58 [rowS 0 n c, Cl 60 2] (heapOf [o, .dead, hB own] hp0), (newI 3 k, heapOf [iB ids, .dead] (heapOf [o, .dead, hB own] hp0)))], []) := by kernel_rfl
theorem r25f : (execE Try.prog (c25 own vs) [] [(7, nilS, [.dead])] [] 20 fb25 ⟨tmsOf [rowS 0 n c, hcA own] 0 .leaf, heapOf [o, .dead] hp0, []⟩).map (fun z => (look2 0 [] [4] (z.1, z.2.1), z.2.2)) =
    some ((.ret, [], [(4, nilS)], true), [], [(c25 own vs 58 [rowS 0 n c, Cl 60 2] (heapOf [o, .dead, hB own] hp0), (nilS, heapOf [.dead] (heapOf [o, .dead, hB own] hp0)))], []) := by kernel_rfl
theorem r25n : (execE Try.prog (c25 own vs) [] [(7, nilS, [.dead])] [] 20 fb25 ⟨tmsOf [nilS, hcA own] 0 .leaf, heapOf [.dead] hp0, []⟩).map (fun z => (look2 0 [] [4] (z.1, z.2.1), z.2.2)) =
    some ((.ret, [], [(4, nilS)], true), [], [(c25 own vs 58 [nilS, Cl 60 1] (heapOf [.dead, hB own] hp0), (nilS, heapOf [.dead] (heapOf [.dead, hB own] hp0)))], []) := by kernel_rfl
end
open Classical in
theorem c25_58 {own : ViewV} {vs : List ViewV} {s : Value} {b2 : Nat} {hp : Hp} (hT : TN vs s hp) (hb : hp.get b2 = some (hB own)) (hne : ∀ b n c, s = rowS b n c → b ≠ b2) : c25 own vs 58 [s, Cl 60 b2] hp = some (rowIv (idsP (pr25 own) vs) hp.sz, heapOf (rowIO (idsP (pr25 own) vs) ++ [.dead]) hp) := by
  show aCall Try.prog (E25 own vs) 5 58 _ _ = _
  rw [aCall]
  have hE : E25 own vs 58 = some fun _ args h => g58 60 own (pr25 own) vs args h := rfl
  rw [hE]
  show (if TN vs s hp ∧ ∃ b, Cl 60 b2 = Cl 60 b ∧ hp.get b = some (hB own) ∧ (∀ b' n c, s = rowS b' n c → b' ≠ b) then _ else _) = _
  rw [if_pos ⟨hT, b2, rfl, hb, hne⟩]
def Ends25 (ids : List Int) (e : Exit) (st : St) : Prop := e = .ret ∧ ∃ g, st = stOf 8 g [(4, rowIv ids 0)] (rowIO ids)
theorem fr25 (o : Blk) (ho : inertB o = true) (own : ViewV) (vs : List ViewV) (hn : vs.length < 1000000) (hrow : vs = [] ∨ ∃ ty ro, o = .cells ty (vrow vs) ro) (c : Nat) (W : Base) :
    FRwp Try.prog 8 W fb25 ⟨tmsOf [rowS 0 vs.length c, hcA own] 0 .leaf, heapOf [o, .dead] hp0, []⟩ (Ends25 (idsP (pr25 own) vs)) := by
  have g0 : (heapOf [o, .dead, hB own] hp0).get 0 = some o := by rw [heapOf0_get]; rfl
  have h := c25_58 (own := own) (vs := vs) (s := rowS 0 vs.length c) (b2 := 2) (hp := heapOf [o, .dead, hB own] hp0) (.inr ⟨0, c, o, rfl, g0, ho, hrow⟩) (by rw [heapOf0_get]; rfl) (fun b n c' e => by simp [rowS] at e; omega)
  generalize idsP (pr25 own) vs = ids at *
  cases ids with
  | nil => exact FRwp.pieceY (c25_ok own vs hn) follows 0 _ _ _ _ (r25f o own vs vs.length c) Met.nil (MetH.cons h MetH.nil) MetE.nil s25 rfl rfl (noFix _) fun g => ⟨rfl, g, rfl⟩
  | cons i ids => exact FRwp.pieceY (c25_ok own vs hn) follows 1 _ _ _ _ (r25t o own vs vs.length c (i :: ids).length (i :: ids)) Met.nil (MetH.cons h MetH.nil) MetE.nil s25 rfl rfl (fixI _ []) fun g => ⟨rfl, g, rfl⟩
theorem frn25 (own : ViewV) (W : Base) : FRwp Try.prog 8 W fb25 ⟨tmsOf [nilS, hcA own] 0 .leaf, heapOf [.dead] hp0, []⟩ (Ends25 (idsP (pr25 own) [])) := by
  have h := c25_58 (own := own) (vs := []) (s := nilS) (b2 := 1) (hp := heapOf [.dead, hB own] hp0) (.inl ⟨rfl, rfl⟩) (by rw [heapOf0_get]; rfl) (fun b n c' e => by simp [nilS, rowS] at e)
  exact FRwp.pieceY (c25_ok own [] (by simp)) follows 0 _ _ _ _ (r25n own []) Met.nil (MetH.cons h MetH.nil) MetE.nil s25 rfl rfl (noFix _) fun g => ⟨rfl, g, rfl⟩
open Classical in
noncomputable def g25 (vs : List ViewV) : HeapFn := fun args hp => match args with
  | [s, .agg cs] => match cs.toList with
    | [.bool n, .int .i64 t, .int .i64 o, .int .i64 r, .int .i64 d, .int .i64 i] =>
      if TN vs s hp then some (rowIv (idsP (pr25 ⟨0, n, t, o, r, d, i⟩) vs) hp.sz, heapOf (rowIO (idsP (pr25 ⟨0, n, t, o, r, d, i⟩) vs) ++ [.dead]) hp) else none
    | _ => none
  | _ => none
theorem hk25 (vs : List ViewV) (hn : vs.length < 1000000) : CallGoal Try.prog 25 (g25 vs) := scan_goal follows Try.func25 body25 (by kernel_rfl) fun args hp v hp' h hk => by
  unfold g25 at h
  rw [ntmps25]
  split at h
  case h_2 => cases h
  rename_i s cs
  split at h
  case h_2 => cases h
  rename_i n t o r d i hcs
  obtain rfl := arr_of hcs
  generalize hy : (⟨0, n, t, o, r, d, i⟩ : ViewV) = own at h
  have eh : Value.agg [.bool n, .int .i64 t, .int .i64 o, .int .i64 r, .int .i64 d, .int .i64 i].toArray = hcA own := by rw [← hy]; rfl
  rw [eh]
  split at h
  case isFalse => cases h
  rename_i hT
  cases h
  have run : ∃ (K0 : List Nat), nodupB K0 = true ∧ (∀ b ∈ K0, ∃ o, hp.get b = some o ∧ startOk o = true) ∧ ([s, hcA own]).all ok3 = true ∧ ∀ W, FRwp Try.prog 8 W fb25 ⟨tmsOf ([s, hcA own].map (sh3 K0 0)) 0 .leaf, startHp K0 hp, []⟩ (Ends25 (idsP (pr25 own) vs)) := by
    rcases hT with ⟨rfl, rfl⟩ | ⟨b, c, ob, rfl, hb, hi, hr⟩
    · refine ⟨[], rfl, (fun b hb => by cases hb), rfl, fun W => ?_⟩
      have e1 : [nilS, hcA own].map (sh3 [] 0) = [nilS, hcA own] := by simp [sh3, sh2, sh1, nilS, hcA]
      rw [e1]
      exact frn25 own W
    · refine ⟨[b], rfl, fun b' hb' => ?_, rfl, fun W => ?_⟩
      · have : b' = b := by simpa using hb'
        subst this
        exact ⟨ob, hb, inert_start hi⟩
      · have e1 : [rowS b vs.length c, hcA own].map (sh3 [b] 0) = [rowS 0 vs.length c, hcA own] := by simp [sh3, sh2, sh1, rho, idxOf, rowS, hcA]
        rw [e1, start1 hb hi]
        exact fr25 (roBlk ob) (ro_inert hi) own vs hn (ro_row hr) c W
  obtain ⟨K0, n0, hst, hall, hrun⟩ := run
  unfold Ends25 at hrun
  generalize idsP (pr25 own) vs = ids at *
  cases ids with
  | nil =>
    refine ⟨K0, [], [], rfl, rfl, n0, rfl, hst, hall, (by simp), fun W => FRwp.mono (hrun W) fun e st q => ?_⟩
    obtain ⟨rfl, g, rfl⟩ := q
    exact ⟨.inr rfl, rfl, _, q25 _ _ g, rfl, (fun b hb => by cases hb), by simp [sh3, sh2, sh1, rowIv, nilS], rfl⟩
  | cons i ids =>
    refine ⟨K0, [0], [iB (i :: ids)], rfl, rfl, n0, rfl, hst, hall, (by simp), fun W => FRwp.mono (hrun W) fun e st q => ?_⟩
    obtain ⟨rfl, g, rfl⟩ := q
    have hg : (stOf 8 g [(4, rowIv (i :: ids) 0)] [iB (i :: ids)]).hp.get 0 = some (iB (i :: ids)) := by show (heapOf _ hp0).get 0 = _; rw [heapOf0_get]; rfl
    refine ⟨.inr rfl, rfl, _, q25 _ _ g, rfl, fun b' hb' => ?_, by simp [sh3, sh2, sh1, rho, idxOf, rowIv, newI], ?_⟩
    · have : b' = 0 := by simpa using hb'
      subst this
      exact ⟨_, hg, ok2_inert (iB_inert _), rfl⟩
    · simp only [outOf, List.map_cons, List.map_nil]
      show [iB (i :: ids)] = [shBlk [0] hp.sz (((stOf 8 g [(4, rowIv (i :: ids) 0)] [iB (i :: ids)]).hp.get 0).getD .dead)]
      rw [hg]
      exact congrArg (fun z => [z]) (inert_shBlk (iB_inert _) [0] hp.sz).symm
noncomputable def G25 : HeapFn := padF (atRow (fun _ => True) g25)
theorem hkG25 : CallGoal Try.prog 25 G25 := pad_goal (atRow_goal fun vs hn _ => hk25 vs hn)
open Classical in
theorem G25_of {vs : List ViewV} {s : Value} {hp : Hp} (own : ViewV) (h : TN vs s hp) (hn : vs.length < 1000000) : G25 [s, hcA own] hp = some (rowIv (idsP (pr25 own) vs) hp.sz, heapOf [ownI (idsP (pr25 own) vs), .dead] hp) := by
  unfold G25
  refine pad_rowI ?_
  rw [atRow_of h hn trivial]
  show (if TN vs s hp then _ else _) = _
  rw [if_pos h]
  rfl
end Go.Proofs.Ytiogdklmhpllfaa.LtA
namespace Go.Proofs.Ytiogdklmhpllfaa.LtA
open Go Go.Proofs Go.Proofs.Ytiogdklmhpllfaa.AI Go.RowKit Go.Proofs.Ytiogdklmhpllfaa.Sort

noncomputable def E21 : Ext := extH Try.prog [(57, g57), (17, g17)]
noncomputable def c21 : CallF := aCall Try.prog E21 5
theorem c21_ok : CallOk Try.prog c21 := aCall_sound (by unfold E21; exact extH_ok (.cons hk57 (.cons hk17 .nil))) follows 5
noncomputable def fb21 : Code := (Try.f21.body).getD .skip
noncomputable def c21a : Code := sL fb21
noncomputable def c21b : Code := sL (sR fb21)
noncomputable def c21c : Code := sL (sR (sR fb21))
noncomputable def c21d : Code := sL (sL (sR (sR (sR fb21))))
noncomputable def c21e : Code := unL (unB (sR (sL (sR (sR (sR fb21))))))
noncomputable def c21f : Code := sR (sR (sR (sR fb21)))
noncomputable abbrev code21 : Code := .seq c21a (.seq c21b (.seq c21c (.seq (.seq c21d (.block 0 (.loop c21e))) c21f)))
theorem body21 : Try.f21.body = some code21 := by kernel_rfl
theorem ntmps21 : Try.f21.ntmps = 33 := by kernel_rfl
theorem s21 : codeSafe Try.prog 33 code21 = true := by kernel_rfl
theorem s21a : codeSafe Try.prog 33 c21a = true := by kernel_rfl
theorem s21b : codeSafe Try.prog 33 c21b = true := by kernel_rfl
theorem s21c : codeSafe Try.prog 33 c21c = true := by kernel_rfl
theorem s21d : codeSafe Try.prog 33 c21d = true := by kernel_rfl
theorem s21e : codeSafe Try.prog 33 c21e = true := by kernel_rfl
theorem s21f : codeSafe Try.prog 33 c21f = true := by kernel_rfl
theorem q21 (x : ViewV) (b : Bool) (g : Nat → Value) : retVal Try.prog Try.f21 (stOf 33 g [(2, pb 0 0), (3, .bool b)] [vB x]) = some (.tuple #[.agg ⟨vc x⟩, .bool b]) := by kernel_rfl
def toldV (x : ViewV) : Bool := told x.n x.t x.o x.r x.d x.i
section
variable (o : Blk) (n c i : Nat) (x y : ViewV) (b : Bool) (g : Nat → Value)
theorem r21a : (execE Try.prog c21 [] [] [] 10 c21a ⟨tmsOf [rowS 0 n c] 0 .leaf, heapOf [o, .dead] hp0, []⟩).map (fun z => (look2 1 [0, 2] [0, 2] (z.1, z.2.1), z.2.2)) =
    some ((.normal, [o, vB (zeroV 0)], [(0, rowS 0 n c), (2, pb 1 0)], true), [], [], []) := by kernel_rfl
theorem r21b : (execE Try.prog c21 [] [] [] 10 c21b (stOf 33 g [(0, rowS 0 n c), (2, pb 1 0)] [o, vB (zeroV 0)])).map (fun z => (look2 1 [0, 1, 3] [0, 2, 4] (z.1, z.2.1), z.2.2)) =
    some ((.normal, [o, vB (zeroV 0), vB (zeroV 0)], [(0, rowS 0 n c), (2, pb 1 0), (4, pb 2 0)], true), [], [], []) := by kernel_rfl
theorem r21c : (execE Try.prog c21 [] [] [] 10 c21c (stOf 33 g [(0, rowS 0 n c), (2, pb 1 0), (4, pb 2 0)] [o, vB (zeroV 0), vB (zeroV 0)])).map (fun z => (look2 1 [0, 1, 2] [0, 2, 4, 5] (z.1, z.2.1), z.2.2)) =
    some ((.normal, [o, vB (zeroV 0), vB (zeroV 0)], [(0, rowS 0 n c), (2, pb 1 0), (4, pb 2 0), (5, .bool false)], true), [], [], []) := by kernel_rfl
abbrev L21 (y : ViewV) (b : Bool) (i : Nat) (g : Nat → Value) : St := stOf 33 g [(2, pb 1 0), (4, pb 2 0), (5, .bool b), (9, rowS 0 n c), (10, iN n), (11, iN i)] [o, vB (zeroV 0), vB y]
theorem r21d : (execE Try.prog c21 [] [] [] 10 c21d (stOf 33 g [(0, rowS 0 n c), (2, pb 1 0), (4, pb 2 0), (5, .bool false)] [o, vB (zeroV 0), vB (zeroV 0)])).map (fun z => (look2 1 [0, 1, 2] [2, 4, 5, 9, 10, 11] (z.1, z.2.1), z.2.2)) =
    some ((.normal, [o, vB (zeroV 0), vB (zeroV 0)], [(2, pb 1 0), (4, pb 2 0), (5, .bool false), (9, rowS 0 n c), (10, iN n), (11, iN 0)], true), [], [], []) := by kernel_rfl
theorem r21x : (execE Try.prog c21 [(12, .bool false)] [] [] 20 c21e (L21 o n c y b i g)).map (fun z => (look2 0 [1, 2] [2, 4, 5] (z.1, z.2.1), z.2.2)) =
    some ((.exit 0, [vB (zeroV 0), vB y], [(2, pb 0 0), (4, pb 1 0), (5, .bool b)], true), [ltO i n false], [], []) := by kernel_rfl
noncomputable def o21 (l : List Obl) : List Obl := ltO i n true :: ixO 0 n c i :: ldO (heapOf ([o, vB (zeroV 0), vB y] ++ [.dead]) hp0).get 34 0 (i * 7) (.agg ⟨vc x⟩) :: l
def k21 : List (Tmp × Value) := [(12, .bool true), (13, pb 0 (i * 7)), (14, .agg ⟨vc x⟩), (30, iN (i + 1))]
noncomputable def toO (x : ViewV) (b : Bool) : Obl := (some (.bool (toldV x)), .bool b)
noncomputable def leV (x y : ViewV) (b : Bool) : Obl := (some (.bool (ltV x y)), .bool b)
theorem r21f : (execE Try.prog c21 (k21 i x ++ [(17, .bool false)]) [] [] 20 c21e (L21 o n c y b i g)).map (fun z => (look2 1 [0, 1, 2] [2, 4, 5, 9, 10, 11] (z.1, z.2.1), z.2.2)) =
    some ((.normal, [o, vB (zeroV 0), vB y], [(2, pb 1 0), (4, pb 2 0), (5, .bool b), (9, rowS 0 n c), (10, iN n), (11, iN (i + 1))], true), o21 o n c i x y [toO x false, nxt29 i], [], []) := by kernel_rfl
theorem r21g : (execE Try.prog c21 (k21 i x ++ [(17, .bool true)]) [] [] 20 c21e (L21 o n c y false i g)).map (fun z => (look2 1 [0, 1, 2] [2, 4, 5, 9, 10, 11] (z.1, z.2.1), z.2.2)) =
    some ((.normal, [o, vB (zeroV 0), vB x], [(2, pb 1 0), (4, pb 2 0), (5, .bool true), (9, rowS 0 n c), (10, iN n), (11, iN (i + 1))], true), o21 o n c i x y [toO x true, nxt29 i], [], []) := by kernel_rfl
theorem r21h : (execE Try.prog c21 (k21 i x ++ [(17, .bool true), (26, .bool true)]) [] [] 20 c21e (L21 o n c y true i g)).map (fun z => (look2 1 [0, 1, 2] [2, 4, 5, 9, 10, 11] (z.1, z.2.1), z.2.2)) =
    some ((.normal, [o, vB (zeroV 0), vB x], [(2, pb 1 0), (4, pb 2 0), (5, .bool true), (9, rowS 0 n c), (10, iN n), (11, iN (i + 1))], true), o21 o n c i x y [toO x true, leV x y true, nxt29 i], [], []) := by kernel_rfl
theorem r21i : (execE Try.prog c21 (k21 i x ++ [(17, .bool true), (26, .bool false)]) [] [] 20 c21e (L21 o n c y true i g)).map (fun z => (look2 1 [0, 1, 2] [2, 4, 5, 9, 10, 11] (z.1, z.2.1), z.2.2)) =
    some ((.normal, [o, vB (zeroV 0), vB y], [(2, pb 1 0), (4, pb 2 0), (5, .bool true), (9, rowS 0 n c), (10, iN n), (11, iN (i + 1))], true), o21 o n c i x y [toO x true, leV x y false, nxt29 i], [], []) := by kernel_rfl
theorem r21j : (execE Try.prog c21 [] [] [] 20 c21f (stOf 33 g [(2, pb 0 0), (4, pb 1 0), (5, .bool b)] [vB (zeroV 0), vB y])).map (fun z => (look2 0 [0] [2, 3] (z.1, z.2.1), z.2.2)) =
    some ((.ret, [vB y], [(2, pb 0 0), (3, .bool b)], true), [], [], []) := by kernel_rfl
theorem r21n : (execQ Try.prog c21 [] 40 code21 ⟨tmsOf [nilS] 0 .leaf, heapOf [.dead] hp0, []⟩).map (fun z => (look2 0 [1] [2, 3] (z.1, z.2.1), z.2.2)) = some ((.ret, [vB (zeroV 0)], [(2, pb 0 0), (3, .bool false)], true), []) := by kernel_rfl
end
def lowS (p : ViewV × Bool) (x : ViewV) : ViewV × Bool := bif toldV x && (!p.2 || ltV x p.1) then (x, true) else p
/-- The lowest one. -/
def lowV (vs : List ViewV) : ViewV × Bool := vs.foldl lowS (zeroV 0, false)
def EndsL (vs : List ViewV) (e : Exit) (st : St) : Prop := e = .ret ∧ ∃ g, st = stOf 33 g [(2, pb 0 0), (3, .bool (lowV vs).2)] [vB (lowV vs).1]
theorem low_fr (o : Blk) (ho : inertB o = true) (vs : List ViewV) (hn : vs.length < 1000000) (hrow : vs = [] ∨ ∃ ty ro, o = .cells ty (vrow vs) ro) (c : Nat) (W : Base) :
    FRwp Try.prog 33 W code21 ⟨tmsOf [rowS 0 vs.length c] 0 .leaf, heapOf [o, .dead] hp0, []⟩ (EndsL vs) := by
  refine FRwp.seq (Q1 := fun x st => x = .normal ∧ ∃ g, st = stOf 33 g [(0, rowS 0 vs.length c), (2, pb 1 0)] [o, vB (zeroV 0)]) (FRwp.pieceY c21_ok follows 1 _ _ _ _ (r21a o vs.length c) Met.nil MetH.nil MetE.nil s21a rfl rfl (fix11 ho _) fun g => ⟨rfl, g, rfl⟩) ?_ (fun x st hne hq => absurd hq.1 hne)
  rintro st ⟨-, g, rfl⟩
  refine FRwp.seq (Q1 := fun x st => x = .normal ∧ ∃ g, st = stOf 33 g [(0, rowS 0 vs.length c), (2, pb 1 0), (4, pb 2 0)] [o, vB (zeroV 0), vB (zeroV 0)]) (FRwp.pieceY c21_ok follows 1 _ _ _ _ (r21b o vs.length c g) Met.nil MetH.nil MetE.nil s21b rfl rfl (fix11 ho _) fun g => ⟨rfl, g, rfl⟩) ?_ (fun x st hne hq => absurd hq.1 hne)
  rintro st ⟨-, g, rfl⟩
  refine FRwp.seq (Q1 := fun x st => x = .normal ∧ ∃ g, st = stOf 33 g [(0, rowS 0 vs.length c), (2, pb 1 0), (4, pb 2 0), (5, .bool false)] [o, vB (zeroV 0), vB (zeroV 0)]) (FRwp.pieceY c21_ok follows 1 _ _ _ _ (r21c o vs.length c g) Met.nil MetH.nil MetE.nil s21c rfl rfl (fix11 ho _) fun g => ⟨rfl, g, rfl⟩) ?_ (fun x st hne hq => absurd hq.1 hne)
  rintro st ⟨-, g, rfl⟩
  refine FRwp.seq (Q1 := fun x st => x = .normal ∧ ∃ g, st = stOf 33 g [(2, pb 0 0), (4, pb 1 0), (5, .bool (lowV vs).2)] [vB (zeroV 0), vB (lowV vs).1]) ?_ ?_ (fun x st hne hq => absurd hq.1 hne)
  · refine FRwp.seq (Q1 := fun x st => x = .normal ∧ ∃ g, st = L21 o vs.length c (zeroV 0) false 0 g) (FRwp.pieceY c21_ok follows 1 _ _ _ _ (r21d o vs.length c g) Met.nil MetH.nil MetE.nil s21d rfl rfl (fix11 ho _) fun g => ⟨rfl, g, rfl⟩) ?_ (fun x st hne hq => absurd hq.1 hne)
    rintro st ⟨-, g, rfl⟩
    refine FRwp.block ?_
    refine FRwp.loop (fun k st => ∃ i y b g, i ≤ vs.length ∧ k = vs.length - i ∧ (vs.take i).foldl lowS (zeroV 0, false) = (y, b) ∧ st = L21 o vs.length c y b i g) ?_ (k := vs.length) ⟨0, _, _, g, Nat.zero_le _, rfl, rfl, rfl⟩
    rintro k st ⟨i, y, b, g, hi, hk, hf, rfl⟩
    cases h12 : decide (i < vs.length) with
    | false =>
      have hii : i = vs.length := by have := of_decide_eq_false h12; omega
      subst hii
      rw [List.take_length] at hf
      refine FRwp.pieceY c21_ok follows 0 _ _ _ _ (r21x o vs.length c vs.length y b g) (Met.cons (ltO_ok h12) Met.nil) MetH.nil MetE.nil s21e rfl rfl (noFix _) fun g' => .inr ⟨by simp, ?_⟩
      show (if (0 : Nat) = 0 then _ else _)
      rw [if_pos rfl]
      refine ⟨rfl, g', ?_⟩
      unfold lowV
      rw [hf]
    | true =>
      have hlt := of_decide_eq_true h12
      obtain ⟨x, hx⟩ := some_at hlt
      have hr : ∃ ty ro, o = .cells ty (vrow vs) ro := by
        rcases hrow with h | h
        · rw [h] at hlt; simp at hlt
        · exact h
      have hst := fold_step (f := lowS) (a := (zeroV 0, false)) hx
      rw [hf] at hst
      have hat : RowAt (heapOf ([o, vB (zeroV 0), vB y] ++ [.dead]) hp0) 0 vs := rowAt0 hr
      have met : ∀ {l : List Obl}, Met l → Met (o21 o vs.length c i x y l) := fun hl => Met.cons (ltO_ok h12) (Met.cons (ix_ok hlt) (Met.cons (at_ok hat hx) hl))
      have hnx : Met [nxt29 i] := Met.cons (wrap_up (by omega)) Met.nil
      have tob : ∀ {b : Bool}, toldV x = b → (toO x b).1 = some (toO x b).2 := fun h => by show some (Value.bool (toldV x)) = _; rw [h]; rfl
      have leb : ∀ {b : Bool}, ltV x y = b → (leV x y b).1 = some (leV x y b).2 := fun h => by show some (Value.bool (ltV x y)) = _; rw [h]; rfl
      have go : ∀ {y' : ViewV} {b' : Bool} {g' : Nat → Value}, lowS (y, b) x = (y', b') → ∃ k', k' < k ∧ ∃ j z d g, j ≤ vs.length ∧ k' = vs.length - j ∧ (vs.take j).foldl lowS (zeroV 0, false) = (z, d) ∧ L21 o vs.length c y' b' (i + 1) g' = L21 o vs.length c z d j g :=
        fun {y' b' g'} h => ⟨vs.length - (i + 1), by omega, i + 1, y', b', g', by omega, rfl, by rw [hst, h], rfl⟩
      cases h17 : toldV x with
      | false =>
        refine FRwp.pieceY c21_ok follows 1 _ _ _ _ (r21f o vs.length c i x y b g) (met (Met.cons (tob h17) hnx)) MetH.nil MetE.nil s21e rfl rfl (fix11 ho _) fun g' => .inl ⟨rfl, go ?_⟩
        unfold lowS; rw [h17]; rfl
      | true =>
        cases b with
        | false =>
          refine FRwp.pieceY c21_ok follows 1 _ _ _ _ (r21g o vs.length c i x y g) (met (Met.cons (tob h17) hnx)) MetH.nil MetE.nil s21e rfl rfl (fix11 ho _) fun g' => .inl ⟨rfl, go ?_⟩
          unfold lowS; rw [h17]; rfl
        | true =>
          cases h26 : ltV x y with
          | true =>
            refine FRwp.pieceY c21_ok follows 1 _ _ _ _ (r21h o vs.length c i x y g) (met (Met.cons (tob h17) (Met.cons (leb h26) hnx))) MetH.nil MetE.nil s21e rfl rfl (fix11 ho _) fun g' => .inl ⟨rfl, go ?_⟩
            unfold lowS; simp only [h17, h26]; rfl
          | false =>
            refine FRwp.pieceY c21_ok follows 1 _ _ _ _ (r21i o vs.length c i x y g) (met (Met.cons (tob h17) (Met.cons (leb h26) hnx))) MetH.nil MetE.nil s21e rfl rfl (fix11 ho _) fun g' => .inl ⟨rfl, go ?_⟩
            unfold lowS; simp only [h17, h26]; rfl
  · rintro st ⟨-, g, rfl⟩
    exact FRwp.pieceY c21_ok follows 0 _ _ _ _ (r21j (lowV vs).1 (lowV vs).2 g) Met.nil MetH.nil MetE.nil s21f rfl rfl (noFix _) fun g => ⟨rfl, g, rfl⟩
theorem low_nil (W : Base) : FRwp Try.prog 33 W code21 ⟨tmsOf [nilS] 0 .leaf, heapOf [.dead] hp0, []⟩ (EndsL []) :=
  FRwp.piece c21_ok follows 0 _ _ _ _ r21n Met.nil s21 rfl rfl rfl (noFix _) fun g => ⟨rfl, g, rfl⟩
def lowA (vs : List ViewV) : Value := .tuple #[.agg ⟨vc (lowV vs).1⟩, .bool (lowV vs).2]
open Classical in
noncomputable def g21 (vs : List ViewV) : HeapFn := fun args hp => match args with
  | [s] => if TN vs s hp then some (lowA vs, heapOf ([] ++ [.dead]) hp) else none
  | _ => none
theorem hk21 (vs : List ViewV) (hn : vs.length < 1000000) : CallGoal Try.prog 21 (g21 vs) := scan_goal follows Try.func21 body21 (by kernel_rfl) fun args hp v hp' h hk => by
  unfold g21 at h
  rw [ntmps21]
  split at h
  case h_2 => cases h
  rename_i s
  split at h
  case isFalse => cases h
  rename_i hT
  cases h
  have fin : ∀ {e : Exit} {st : St}, EndsL vs e st → (e = .normal ∨ e = .ret) ∧ st.df = [] ∧ ∃ v0, retVal Try.prog Try.f21 st = some v0 ∧ ok3 v0 = true ∧
      (∀ b ∈ ([] : List Nat), ∃ o, st.hp.get b = some o ∧ okBlk o = true ∧ rwB o = true) ∧ lowA vs = sh3 [] hp.sz v0 ∧ [] = outOf [] hp.sz st.hp := by
    rintro e st ⟨rfl, g, rfl⟩
    exact ⟨.inr rfl, rfl, _, q21 _ _ g, rfl, (fun b hb => by cases hb), by simp [sh3, sh2, sh1, lowA, vc], rfl⟩
  rcases hT with ⟨rfl, rfl⟩ | ⟨b, c, o, rfl, hb, hi, hr⟩
  · refine ⟨[], [], [], rfl, rfl, rfl, rfl, (fun b hb => by cases hb), rfl, (by simp), fun W => ?_⟩
    have e1 : [nilS].map (sh3 [] 0) = [nilS] := by simp [sh3, sh2, sh1, nilS]
    rw [e1]
    exact FRwp.mono (low_nil W) fun e st q => fin q
  · refine ⟨[b], [], [], rfl, rfl, rfl, rfl, fun b' hb' => ?_, rfl, (by simp), fun W => ?_⟩
    · have : b' = b := by simpa using hb'
      subst this
      exact ⟨o, hb, inert_start hi⟩
    · have e1 : [rowS b vs.length c].map (sh3 [b] 0) = [rowS 0 vs.length c] := by simp [sh3, sh2, sh1, rho, idxOf, rowS]
      rw [e1, start1 hb hi]
      exact FRwp.mono (low_fr (roBlk o) (ro_inert hi) vs hn (ro_row hr) c W) fun e st q => fin q
noncomputable def G21 : HeapFn := atRow (fun _ => True) g21
theorem hkG21 : CallGoal Try.prog 21 G21 := atRow_goal fun vs hn _ => hk21 vs hn
open Classical in
theorem G21_of {vs : List ViewV} {s : Value} {hp : Hp} (h : TN vs s hp) (hn : vs.length < 1000000) : G21 [s] hp = some (lowA vs, heapOf [.dead] hp) := by
  unfold G21
  rw [atRow_of h hn trivial]
  show (if TN vs s hp then _ else _) = _
  rw [if_pos h]; rfl
end Go.Proofs.Ytiogdklmhpllfaa.LtA
namespace Go.Proofs.Ytiogdklmhpllfaa.LtA
open Go Go.Proofs Go.Proofs.Ytiogdklmhpllfaa.AI Go.RowKit Go.Proofs.Ytiogdklmhpllfaa.Sort

/-- A row of ints, or nil. -/
def vI (f : Bool) (b k : Nat) : Value := bif f then newI b k else nilS
def kk (f : Bool) (k : Nat) : Nat := bif f then k else 0
noncomputable def ixI (b k i : Nat) : Obl := (fstV ((aIndexAddr Try.prog 31 (newI b k) (iN i)).map fun v => (v, none)), pb b i)
noncomputable def chO (own : ViewV) (b : Bool) : Obl := (some (.bool (chk own.n own.t own.o own.r own.d own.i != 0)), .bool b)
section
variable (o A B : Blk) (own x y u w : ViewV) (n c q i ka kb : Nat) (z x1 x2 : Int) (b lb fa fb : Bool) (g : Nat → Value)
def h7 (o : Blk) (own : ViewV) : Hp := heapOf ([o, hB own] ++ [.dead]) hp0
noncomputable def hu (r : Bool) : Obl := (some (.bool (decide (Int.ofNat n > 100))), .bool r)
/-! Behind Lowest. -/
end
/-! A nil row. -/
section
variable (own : ViewV)
end
end Go.Proofs.Ytiogdklmhpllfaa.LtA
namespace Go.Proofs.Ytiogdklmhpllfaa.LtA
open Go Go.Proofs Go.Proofs.Ytiogdklmhpllfaa.AI Go.RowKit Go.Proofs.Ytiogdklmhpllfaa.Sort

theorem kn_iff {x : ViewV} : Kn x ↔ x.n = false ∧ okV x = true := by
  unfold Kn known okV
  cases x.n <;> simp
theorem right_facts {vs : List ViewV} (h : rightB vs = true) {x : ViewV} (hx : x ∈ vs) : x.i = x.id ∧ okV x = true := by
  have h1 := (right_iff.1 h).1 x hx
  rw [oneV_parts, Bool.and_eq_true, Bool.and_eq_true, Bool.and_eq_true] at h1
  exact ⟨by simpa using h1.2.2.1, h1.2.2.2⟩
theorem lt_total {u w : ViewV} (hu : Kn u) (hw : Kn w) (h : u.i ≠ w.i) : ltV u w = true ∨ ltV w u = true := by
  have : Lex u w ∨ Lex w u := by unfold Lex; omega
  rcases this with h | h
  · exact .inl ((ltV_lex hu hw).2 h)
  · exact .inr ((ltV_lex hw hu).2 h)
theorem lt_kn {u w : ViewV} (h : ltV u w = true) : Kn u ∧ Kn w := by
  unfold ltV less at h
  obtain ⟨h1, h2⟩ := Bool.and_eq_true_iff.1 h
  exact ⟨h1, (Bool.and_eq_true_iff.1 h2).1⟩
/-! ### No two with one id -/
/-! ### What the ids are -/
theorem ids_get {p : ViewV → Bool} {vs : List ViewV} {i : Nat} {z : Int} (h : (idsP p vs)[i]? = some z) : ∃ u, (ssort ltV (vs.filter p))[i]? = some u ∧ u.id = z ∧ u ∈ vs ∧ p u = true := by
  unfold idsP at h
  rw [List.getElem?_map] at h
  obtain ⟨u, h1, h2⟩ := Option.map_eq_some_iff.1 h
  have hm := mem_ssort.1 (List.mem_of_getElem? h1)
  obtain ⟨m1, m2⟩ := List.mem_filter.1 hm
  exact ⟨u, h1, h2, m1, m2⟩
theorem count3 {p q r : ViewV → Bool} : ∀ {vs : List ViewV}, (∀ x ∈ vs, (p x && q x) = false ∧ (p x || q x) = r x) → (vs.filter p).length + (vs.filter q).length = (vs.filter r).length
  | [], _ => rfl
  | v :: vs, h => by
    have ih := count3 (vs := vs) fun x hx => h x (.tail _ hx)
    obtain ⟨h1, h2⟩ := h v (.head _)
    cases hp : p v <;> cases hq : q v
    · rw [hp, hq] at h2
      rw [List.filter_cons_of_neg (by rw [hp]; simp), List.filter_cons_of_neg (by rw [hq]; simp), List.filter_cons_of_neg (by rw [← h2]; simp)]
      exact ih
    · rw [hp, hq] at h2
      rw [List.filter_cons_of_neg (by rw [hp]; simp), List.filter_cons_of_pos hq, List.filter_cons_of_pos (by rw [← h2]; rfl)]
      simp only [List.length_cons]; omega
    · rw [hp, hq] at h2
      rw [List.filter_cons_of_pos hp, List.filter_cons_of_neg (by rw [hq]; simp), List.filter_cons_of_pos (by rw [← h2]; rfl)]
      simp only [List.length_cons]; omega
    · rw [hp, hq] at h1; cases h1
/-! ### The lowest one -/
def LowOk (P : List ViewV) (p : ViewV × Bool) : Prop := (p.2 = true → p.1 ∈ P ∧ Kn p.1 ∧ ∀ x ∈ P, Kn x → ltV x p.1 = false) ∧ (p.2 = false → ∀ x ∈ P, ¬ Kn x)
theorem toldV_kn {x : ViewV} : toldV x = true ↔ Kn x := Iff.rfl
theorem low_step {P : List ViewV} {p : ViewV × Bool} (h : LowOk P p) (x : ViewV) : LowOk (P ++ [x]) (lowS p x) := by
  obtain ⟨y, b⟩ := p
  obtain ⟨h1, h2⟩ := h
  unfold lowS
  have inl : ∀ {z}, z ∈ P → z ∈ P ++ [x] := fun h => by simp [h]
  have mem : ∀ {z}, z ∈ P ++ [x] → z ∈ P ∨ z = x := fun h => by simpa using h
  cases ht : toldV x with
  | false =>
    have nk : ¬ Kn x := fun h => by rw [toldV_kn.2 h] at ht; cases ht
    refine ⟨fun hb => ?_, fun hb z hz => ?_⟩
    · obtain ⟨a1, a2, a3⟩ := h1 hb
      exact ⟨inl a1, a2, fun z hz hk => by
        rcases mem hz with hz | rfl
        · exact a3 z hz hk
        · exact absurd hk nk⟩
    · rcases mem hz with hz | rfl
      · exact h2 hb z hz
      · exact nk
  | true =>
    have hk := toldV_kn.1 ht
    cases b with
    | false =>
      show LowOk _ (x, true)
      exact ⟨fun _ => ⟨by simp, hk, fun z hz hkz => by
        rcases mem hz with hz | rfl
        · exact absurd hkz (h2 rfl z hz)
        · exact sw.irr hk⟩, fun h => by cases h⟩
    | true =>
      obtain ⟨a1, a2, a3⟩ := h1 rfl
      cases hl : ltV x y with
      | true =>
        show LowOk _ (x, true)
        exact ⟨fun _ => ⟨by simp, hk, fun z hz hkz => by
          rcases mem hz with hz | rfl
          · cases e : ltV z x with
            | false => rfl
            | true => rw [← a3 z hz hkz]; exact (sw.trans hkz hk a2 e hl).symm
          · exact sw.irr hk⟩, fun h => by cases h⟩
      | false =>
        show LowOk _ (y, true)
        exact ⟨fun _ => ⟨inl a1, a2, fun z hz hkz => by
          rcases mem hz with hz | rfl
          · exact a3 z hz hkz
          · exact hl⟩, fun h => by cases h⟩
theorem low_fold : ∀ {R P : List ViewV} {p : ViewV × Bool}, LowOk P p → LowOk (P ++ R) (R.foldl lowS p)
  | [], P, p, h => by rw [List.append_nil]; exact h
  | r :: R, P, p, h => by
    have := low_fold (R := R) (low_step h r)
    rw [List.append_assoc] at this
    exact this
theorem low_ok (vs : List ViewV) : LowOk vs (lowV vs) := by
  have := low_fold (R := vs) (P := []) (p := (zeroV 0, false)) ⟨(fun h => by cases h), (fun _ x hx => by cases hx)⟩
  exact this
end Go.Proofs.Ytiogdklmhpllfaa.LtA
namespace Go.Proofs.Ytiogdklmhpllfaa.LtA
open Go Go.Proofs Go.Proofs.Ytiogdklmhpllfaa.AI Go.RowKit Go.Proofs.Ytiogdklmhpllfaa.Sort

section
variable {hp : Hp}
end
theorem ixI_ok {b k i : Nat} (h : i < k) : (ixI b k i).1 = some (ixI b k i).2 := by
  have h1 : (0 : Int) ≤ Int.ofNat i ∧ Int.ofNat i < (k : Int) := ⟨Int.natCast_nonneg i, by simpa using h⟩
  show fstV ((aIndexAddr Try.prog 31 (newI b k) (iN i)).map fun v => (v, none)) = some (pb b i)
  simp only [aIndexAddr, newI, iN, underlying31, size3]
  rw [if_pos h1]
  simp [fstV, pb]
theorem ldI_ok {h : Hp} {b i : Nat} {ids : List Int} {z : Int} (hb : h.get b = some (iB ids)) (hz : ids[i]? = some z) : (ldO h.get 3 b i (.int .i64 z)).1 = some (ldO h.get 3 b i (.int .i64 z)).2 := by
  show aLoad Try.prog h.get 3 (pb b i) = some (.int .i64 z)
  unfold iB at hb
  unfold pb
  simp only [aLoad, hb, agg3, size3]
  rw [List.getElem?_map, hz]; rfl
theorem ownI_inert (ids : List Int) : inertB (ownI ids) = true := by
  cases ids with
  | nil => rfl
  | cons => exact iB_inert _
theorem bool_ok {a b : Bool} (h : a = b) : (some (Value.bool a)) = some (.bool b) := by rw [h]
section
variable {o A B : Blk} {own y : ViewV} {c q : Nat} {lb fa fb : Bool} {vs : List ViewV} {ia ib : List Int}
end
end Go.Proofs.Ytiogdklmhpllfaa.LtA
