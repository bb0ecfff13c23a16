/- LinksSplit, of the given program: for every views and height the law returns true, and the arguments read as they did. No condition. -/
import Derived.Test.YtiogdklmhpllfaaVgH
import Derived.Test.YtiogdklmhpllfaaRows
set_option linter.unusedVariables false
set_option linter.unusedSimpArgs false
set_option maxRecDepth 100000
namespace Go.Proofs.Ytiogdklmhpllfaa.LtL
open Go Go.Proofs Go.Proofs.Ytiogdklmhpllfaa.AI Go.RowKit Go.Proofs.Ytiogdklmhpllfaa.Sort Go.Proofs.Ytiogdklmhpllfaa.LtA

theorem info81 : ∃ i, Try.prog.info? 81 = some i ∧ i.size = 7 ∧ i.bytes = 56 := by
  have h : (Try.prog.info? 81).map (fun i => (i.size, i.bytes)) = some (7, 56) := by kernel_rfl
  obtain ⟨i, h1, h2⟩ := Option.map_eq_some_iff.1 h
  simp only [Prod.mk.injEq] at h2
  exact ⟨i, h1, h2.1, h2.2⟩
theorem zero81 : ∃ z, tzero Try.prog 81 = some z ∧ z.length = 7 := by
  have h : (tzero Try.prog 81).map (fun z => z.length) = some 7 := by kernel_rfl
  obtain ⟨z, h1, h2⟩ := Option.map_eq_some_iff.1 h
  exact ⟨z, h1, h2⟩
def ownB (vs : List ViewV) : Blk := match vs with
  | [] => .dead
  | _ :: _ => rowB vs
theorem ownB_inert (us : List ViewV) : inertB (ownB us) = true := by
  cases us with
  | nil => rfl
  | cons => exact row_block _
theorem ownB_ne {l : List ViewV} (h : l ≠ []) : ownB l = rowB l := by
  cases l with
  | nil => exact absurd rfl h
  | cons => rfl
theorem app_any {get : Nat → Option Blk} {sz b b2 k : Nat} {ws : List ViewV} {x : ViewV} {f : Bool} (hf : f = !ws.isEmpty) (hb : get b = some (ownB ws)) (hb2 : get b2 = some (vB x)) (hk : k = ws.length) (hl : k < 2000000) :
    aAppend Try.prog get sz [80, 80] [vS f b k 22, rowS b2 1 22] = some (newS sz (k + 1), effF f b (rowB (ws ++ [x]))) := by
  obtain ⟨i, hi, h7, h56⟩ := info81
  obtain ⟨z, hz, hzl⟩ := zero81
  have hb2' : get b2 = some (.cells 81 (vc x) false) := hb2
  have hsrc : aSrc Try.prog get 7 z (.slice 81) (rowS b2 1 22) = some (vc x, 1) := by
    unfold aSrc
    simp only [rowS, srcLen, srcCells, hb2']
    rw [if_neg (by omega), if_neg (by omega), getR_all (n := 1 * 7) rfl]
    rfl
  have e : vrow [x] = vc x := by unfold vrow; simp
  cases ws with
  | cons w ws =>
    subst hf hk
    have hbw : get b = some (.cells 81 (vrow (w :: ws)) false) := hb
    show aAppend Try.prog get sz [80, 80] [newS b (w :: ws).length, rowS b2 1 22] = some (newS sz ((w :: ws).length + 1), [.put b .dead, .push (rowB ((w :: ws) ++ [x]))])
    generalize w :: ws = us at *
    have hg : getR (vrow us) 0 (us.length * 7) = some (vrow us) := getR_all (vrow_len us)
    unfold aAppend
    simp only [underlying80, hi, hz, h7, h56, hzl]
    rw [if_neg (by decide)]
    simp only [hsrc]
    rw [if_neg (by simp [vc, isOne])]
    simp only [newS]
    rw [if_neg (by omega), if_neg (by omega)]
    simp only [hbw, hg]
    rw [if_neg (by omega), if_pos (by decide), if_neg (by rw [vrow_len]; omega)]
    unfold rowB
    rw [vrow_append, e]
  | nil =>
    subst hf hk
    show aAppend Try.prog get sz [80, 80] [nilS, rowS b2 1 22] = some (newS sz 1, [.push (rowB [x])])
    unfold aAppend
    simp only [underlying80, hi, hz, h7, h56, hzl]
    rw [if_neg (by decide)]
    simp only [hsrc]
    rw [if_neg (by simp [vc, isOne])]
    simp only [nilS]
    rw [if_neg (by omega), if_neg (by omega)]
    unfold rowB
    rw [e]; rfl
noncomputable def apV (h : Hp) (sz b k b2 : Nat) (f : Bool) (us : List ViewV) : OblE := (aAppend Try.prog h.get sz [80, 80] [vS f b k 22, rowS b2 1 22], (newS sz (k + 1), effF f b (rowB us)))
def dirV (own x : ViewV) : Int := dir own.n own.t own.o own.r own.d own.i x.n x.t x.o x.r x.d x.i
def pD (d : Int) (own x : ViewV) : Bool := dirV own x == d
theorem pD_kn {d : Int} {own x : ViewV} (hd : d = 1 ∨ d = 2) (h : pD d own x = true) : Kn x := by
  unfold pD dirV dir at h
  cases hk : known x.n x.t x.o x.r x.d x.i with
  | true => exact hk
  | false =>
    rw [hk] at h
    rcases hd with rfl | rfl <;> simp at h
noncomputable def diO (own x : ViewV) (d : Int) (b : Bool) : Obl := (some (.bool (dirV own x == d)), .bool b)
noncomputable def E56 : Ext := extG (extH Try.prog [(14, g14)]) [(76, G76)]
theorem E56_ok : ExtOk Try.prog E56 := extG_ok (extH_ok (.cons hk14 (.nil))) (.cons hkG76 (.nil))
noncomputable def c56 : CallF := aCall Try.prog E56 5
theorem c56_ok : CallOk Try.prog c56 := aCall_sound E56_ok follows 5
theorem c56_76 (args : List Value) (hp : Hp) : c56 76 args hp = G76 args hp := by
  show aCall Try.prog E56 5 76 _ _ = _
  rw [aCall]; rfl
noncomputable def c56n : CallF := aCall Try.prog (extH Try.prog []) 60
theorem c56n_ok : CallOk Try.prog c56n := aCall_sound (extH_ok .nil) follows 60
noncomputable def fb56 : Code := (Try.f56.body).getD .skip
noncomputable def p56 : Nat → Code
  | 0 => fb56
  | n + 1 => sR (p56 n)
noncomputable def c56a : Code := sL (p56 0)
noncomputable def c56b : Code := sL (p56 1)
noncomputable def c56c : Code := sL (sL (p56 2))
noncomputable def c56d : Code := unL (unB (sR (sL (p56 2))))
noncomputable def c56e : Code := sL (p56 3)
noncomputable def c56f : Code := sL (p56 4)
noncomputable def c56g : Code := sL (sL (p56 5))
noncomputable def c56h : Code := unL (unB (sR (sL (p56 5))))
noncomputable def c56i : Code := p56 6
noncomputable abbrev code56 : Code := .seq c56a (.seq c56b (.seq (.seq c56c (.block 0 (.loop c56d))) (.seq c56e (.seq c56f (.seq (.seq c56g (.block 2 (.loop c56h))) c56i)))))
theorem body56 : Try.f56.body = some code56 := by kernel_rfl
theorem ntmps56 : Try.f56.ntmps = 45 := by kernel_rfl
theorem s56a : codeSafe Try.prog 45 c56a = true := by kernel_rfl
theorem s56b : codeSafe Try.prog 45 c56b = true := by kernel_rfl
theorem s56c : codeSafe Try.prog 45 c56c = true := by kernel_rfl
theorem s56d : codeSafe Try.prog 45 c56d = true := by kernel_rfl
theorem s56e : codeSafe Try.prog 45 c56e = true := by kernel_rfl
theorem s56f : codeSafe Try.prog 45 c56f = true := by kernel_rfl
theorem s56g : codeSafe Try.prog 45 c56g = true := by kernel_rfl
theorem s56h : codeSafe Try.prog 45 c56h = true := by kernel_rfl
theorem s56i : codeSafe Try.prog 45 c56i = true := by kernel_rfl
noncomputable def rest56 : Code := .seq c56e (.seq c56f (.seq (.seq c56g (.block 2 (.loop c56h))) c56i))
theorem s56r : codeSafe Try.prog 45 rest56 = true := by kernel_rfl
theorem q56 (v : Value) (O : List Blk) (g : Nat → Value) : retVal Try.prog Try.f56 (stOf 45 g [(6, v)] O) = some v := by kernel_rfl
section
variable (f fu fi : Bool) (o U I : Blk) (n c u i k q j : Nat) (d : Int) (x own : ViewV) (us ws zs : List ViewV) (ids : List Int) (g : Nat → Value)
theorem r56a : (execE Try.prog c56 [] [] [] 20 c56a ⟨tmsOf [rowS 0 n c, hcA own, .int .i64 d] 0 .leaf, heapOf [o, .dead] hp0, []⟩).map (fun z => (look2 1 [0, 2] [0, 2, 4] (z.1, z.2.1), z.2.2)) =
    some ((.normal, [o, hB own], [(0, rowS 0 n c), (2, .int .i64 d), (4, pb 1 0)], true), [], [], []) := by kernel_rfl
theorem n56a : (execE Try.prog c56 [] [] [] 20 c56a ⟨tmsOf [nilS, hcA own, .int .i64 d] 0 .leaf, heapOf [.dead] hp0, []⟩).map (fun z => (look2 1 [0, 1] [0, 2, 4] (z.1, z.2.1), z.2.2)) =
    some ((.normal, [.dead, hB own], [(0, nilS), (2, .int .i64 d), (4, pb 1 0)], true), [], [], []) := by kernel_rfl
theorem r56b : (execE Try.prog c56 [] [] [] 20 c56b (stOf 45 g [(0, vS f 0 n c), (2, .int .i64 d), (4, pb 1 0)] [o, hB own])).map (fun z => (look2 2 [0, 2, 1] [0, 2, 4, 7] (z.1, z.2.1), z.2.2)) =
    some ((.normal, [o, .dead, hB own], [(0, vS f 0 n c), (2, .int .i64 d), (4, pb 2 0), (7, nilS)], true), [], [], []) := by cases f <;> kernel_rfl
theorem r56c : (execE Try.prog c56 [] [] [] 20 c56c (stOf 45 g [(0, vS f 0 n c), (2, .int .i64 d), (4, pb 2 0), (7, nilS)] [o, .dead, hB own])).map (fun z => (look2 2 [0, 1, 2] [2, 4, 7, 13, 14, 15] (z.1, z.2.1), z.2.2)) =
    some ((.normal, [o, .dead, hB own], [(2, .int .i64 d), (4, pb 2 0), (7, nilS), (13, vS f 0 n c), (14, iN (kk f n)), (15, iN 0)], true), [], [], []) := by cases f <;> kernel_rfl
abbrev L56 (U : Blk) (fu : Bool) (u i : Nat) (g : Nat → Value) : St := (stOf 45 g [(2, .int .i64 d), (4, pb 2 0), (7, vS fu 1 u 22), (13, vS f 0 n c), (14, iN (kk f n)), (15, iN i)] [o, U, hB own])
def h56 (o U : Blk) (own : ViewV) : Hp := heapOf ([o, U, hB own] ++ [.dead]) hp0
theorem r56x : (execE Try.prog c56 [(16, .bool false)] [] [] 20 c56d (L56 f o n c d own U fu u i g)).map (fun z => (look2 1 [1] [7] (z.1, z.2.1), z.2.2)) =
    some ((.exit 0, [U], [(7, vS fu 0 u 22)], true), [ltO i (kk f n) false], [], []) := by cases f <;> cases fu <;> kernel_rfl
theorem r56f : (execE Try.prog c56 [(16, .bool true), (17, pb 0 (i * 7)), (18, .agg ⟨vc x⟩), (29, iN (i + 1)), (24, .bool false)] [] [] 20 c56d (L56 true o n c d own U fu u i g)).map (fun z => (look2 2 [0, 1, 2] [2, 4, 7, 13, 14, 15] (z.1, z.2.1), z.2.2)) =
    some ((.normal, [o, U, hB own], [(2, .int .i64 d), (4, pb 2 0), (7, vS fu 1 u 22), (13, rowS 0 n c), (14, iN n), (15, iN (i + 1))], true), [ltO i n true, LtA.ixO 0 n c i, ldO (h56 o U own).get 34 0 (i * 7) (.agg ⟨vc x⟩), diO own x d false, nxt29 i], [], []) := by cases fu <;> kernel_rfl
theorem r56t : (execE Try.prog c56 [(16, .bool true), (17, pb 0 (i * 7)), (18, .agg ⟨vc x⟩), (29, iN (i + 1)), (24, .bool true)] [] [(28, newS 6 (u + 1), effF fu 1 (rowB zs))] 20 c56d (L56 true o n c d own U fu u i g)).map (fun z => (look2 2 [0, 6, 2] [2, 4, 7, 13, 14, 15] (z.1, z.2.1), z.2.2)) =
    some ((.normal, [o, rowB zs, hB own], [(2, .int .i64 d), (4, pb 2 0), (7, newS 1 (u + 1)), (13, rowS 0 n c), (14, iN n), (15, iN (i + 1))], true), [ltO i n true, LtA.ixO 0 n c i, ldO (h56 o U own).get 34 0 (i * 7) (.agg ⟨vc x⟩), diO own x d true, nxt29 i], [], [apV (((h56 o U own).push (LtA.vB x)).push (vB x)) 6 1 u 5 fu zs]) := by cases fu <;> kernel_rfl
theorem n56r : (execQ Try.prog c56n [] 60 rest56 (stOf 45 g [(7, nilS)] [.dead])).map (fun z => (look2 0 [] [6] (z.1, z.2.1), z.2.2)) = some ((.ret, [], [(6, nilS)], true), []) := by kernel_rfl
theorem r56e : (execE Try.prog c56 [] [] [(31, vU, [.put 0 (rowB us)])] 20 c56e (stOf 45 g [(7, newS 0 k)] [rowB ws])).map (fun z => (look2 1 [0] [7] (z.1, z.2.1), z.2.2)) =
    some ((.normal, [rowB us], [(7, newS 0 k)], true), [], [(c56 76 [newS 0 k, Fc] (hW ws), (vU, (hW ws).put 0 (rowB us)))], []) := by kernel_rfl
theorem r56g0 : (execE Try.prog c56 [] [] [] 20 c56f (stOf 45 g [(7, newS 0 k)] [rowB ws])).map (fun z => (look2 2 [0, 1] [7, 10] (z.1, z.2.1), z.2.2)) =
    some ((.normal, [rowB ws, .dead], [(7, newS 0 k), (10, nilS)], true), [], [], []) := by kernel_rfl
theorem r56g : (execE Try.prog c56 [] [] [] 20 c56g (stOf 45 g [(7, newS 0 k), (10, nilS)] [rowB ws, .dead])).map (fun z => (look2 2 [0, 1] [10, 32, 33, 34] (z.1, z.2.1), z.2.2)) =
    some ((.normal, [rowB ws, .dead], [(10, nilS), (32, newS 0 k), (33, iN k), (34, iN 0)], true), [], [], []) := by kernel_rfl
abbrev K56 (ws : List ViewV) (I : Blk) (fi : Bool) (n q j : Nat) (g : Nat → Value) : St := (stOf 45 g [(10, vI fi 1 q), (32, newS 0 n), (33, iN n), (34, iN j)] [rowB ws, I])
theorem r56hx : (execE Try.prog c56 [(35, .bool false)] [] [] 20 c56h (K56 ws I fi n q j g)).map (fun z => (look2 1 [1] [10] (z.1, z.2.1), z.2.2)) =
    some ((.exit 2, [I], [(10, vI fi 0 q)], true), [ltO j n false], [], []) := by cases fi <;> kernel_rfl
def hK56 (ws : List ViewV) (I : Blk) : Hp := heapOf ([rowB ws, I] ++ [.dead]) hp0
theorem r56h : (execE Try.prog c56 [(35, .bool true), (36, pb 0 (j * 7)), (37, .agg ⟨vc x⟩), (43, iN (j + 1))] [] [(42, newI 5 (q + 1), effF fi 1 (iB ids))] 20 c56h (K56 ws I fi n q j g)).map (fun z => (look2 2 [0, 5] [10, 32, 33, 34] (z.1, z.2.1), z.2.2)) =
    some ((.normal, [rowB ws, iB ids], [(10, newI 1 (q + 1)), (32, newS 0 n), (33, iN n), (34, iN (j + 1))], true), [ltO j n true, ixO 0 n 22 j, ldO (hK56 ws I).get 81 0 (j * 7) (.agg ⟨vc x⟩), nxt29 j], [], [apI (((hK56 ws I).push (vB x)).push (.cells 3 [icell x.id] false)) 5 1 q 4 fi ids]) := by cases fi <;> kernel_rfl
theorem r56i : (execE Try.prog c56 [] [] [] 20 c56i (stOf 45 g [(10, vI fi 0 q)] [I])).map (fun z => (look2 1 [0] [6] (z.1, z.2.1), z.2.2)) =
    some ((.ret, [I], [(6, vI fi 0 q)], true), [], [], []) := by cases fi <;> kernel_rfl
end
end Go.Proofs.Ytiogdklmhpllfaa.LtL
namespace Go.Proofs.Ytiogdklmhpllfaa.LtL
open Go Go.Proofs Go.Proofs.Ytiogdklmhpllfaa.AI Go.RowKit Go.Proofs.Ytiogdklmhpllfaa.Sort Go.Proofs.Ytiogdklmhpllfaa.LtA

/-- The ids of a direction, the lowest one first. -/
def idsD (d : Int) (own : ViewV) (vs : List ViewV) : List Int := (ssort ltV (vs.filter (pD d own))).map fun x => x.id
theorem idsD_len (d : Int) (own : ViewV) (vs : List ViewV) : (idsD d own vs).length = (vs.filter (pD d own)).length := by unfold idsD; rw [List.length_map, len_ssort]
def ofR (vs : List ViewV) : Ans := fun rest => match rest with
  | [v, .int .i64 d] => if d = 1 ∨ d = 2 then (unH v).map fun own => (rowIv (idsD d own vs) 0, rowIO (idsD d own vs)) else none
  | _ => none
theorem vI_row (ids : List Int) (b : Nat) : vI (!ids.isEmpty) b ids.length = rowIv ids b := by cases ids <;> rfl
theorem fin_row {fn : Func} {N t : Nat} (q : ∀ (v : Value) (O : List Blk) (g : Nat → Value), retVal Try.prog fn (stOf N g [(t, v)] O) = some v) (ids : List Int) (g : Nat → Value) : FinR fn (rowIv ids 0) (rowIO ids) .ret (stOf N g [(t, rowIv ids 0)] [ownI ids]) := by
  refine ⟨.inr rfl, rfl, q _ _ g, fun B hB => ?_⟩
  cases ids with
  | nil => cases hB
  | cons i ids => cases hB; show (heapOf _ hp0).get 0 = _; rw [heapOf0_get]; rfl
theorem run56 (vs : List ViewV) (hn : vs.length < 1000000) : ∀ rest v0 O, ofR vs rest = some (v0, O) → RowRun Try.f56 code56 45 vs rest v0 O := fun rest v0 O h => by
  unfold ofR at h
  split at h
  case h_2 => cases h
  rename_i v d
  split at h
  case isFalse => cases h
  rename_i hd
  obtain ⟨own, hown, h2⟩ := Option.map_eq_some_iff.1 h
  obtain rfl := unH_some hown
  cases h2
  refine ⟨rowI_out _, rowI_ok _, (by intro r hr; have e : r = hcA own ∨ r = .int .i64 d := (by simpa using hr); rcases e with e | e <;> rw [e]; exact stay_h _; exact stay_int _ _), by simp, fun f o c W ho hrow hfl => ?_⟩
  have hkk := kk_len hfl
  have fx2 : ∀ us : List ViewV, ∀ r : List Blk, ∀ i, i < 2 → ∀ o', (o :: ownB us :: r)[i]? = some o' → Fixed 0 o' := fun us => fixOO ho (ownB_inert us)
  refine FRwp.seq (Q1 := fun e st => e = .normal ∧ ∃ g, st = stOf 45 g [(0, vS f 0 vs.length c), (2, .int .i64 d), (4, pb 1 0)] [o, hB own]) ?_ ?_ (fun x st hne hq => absurd hq.1 hne)
  · cases f with
    | true => exact FRwp.pieceY c56_ok follows 1 _ _ _ _ (r56a o vs.length c d own) Met.nil MetH.nil MetE.nil s56a rfl rfl (fix11 ho _) fun g => ⟨rfl, g, rfl⟩
    | false =>
      obtain ⟨rfl, rfl⟩ := hfl rfl
      exact FRwp.pieceY c56_ok follows 1 _ _ _ _ (n56a d own) Met.nil MetH.nil MetE.nil s56a rfl rfl (fix11 rfl _) fun g => ⟨rfl, g, rfl⟩
  rintro st ⟨-, g, rfl⟩
  refine FRwp.seq (Q1 := fun e st => e = .normal ∧ ∃ g, st = stOf 45 g [(0, vS f 0 vs.length c), (2, .int .i64 d), (4, pb 2 0), (7, nilS)] [o, .dead, hB own]) (FRwp.pieceY c56_ok follows 2 _ _ _ _ (r56b f o vs.length c d own g) Met.nil MetH.nil MetE.nil s56b rfl rfl (fx2 [] _) fun g => ⟨rfl, g, rfl⟩) ?_ (fun x st hne hq => absurd hq.1 hne)
  rintro st ⟨-, g, rfl⟩
  refine FRwp.seq (Q1 := fun e st => e = .normal ∧ ∃ g, st = stOf 45 g [(7, vS (!(vs.filter (pD d own)).isEmpty) 0 (vs.filter (pD d own)).length 22)] [ownB (vs.filter (pD d own))]) ?_ ?_ (fun x st hne hq => absurd hq.1 hne)
  · refine FRwp.seq (Q1 := fun e st => e = .normal ∧ ∃ g, st = L56 f o vs.length c d own .dead false 0 0 g) (FRwp.pieceY c56_ok follows 2 _ _ _ _ (r56c f o vs.length c d own g) Met.nil MetH.nil MetE.nil s56c rfl rfl (fx2 [] _) fun g => ⟨rfl, g, rfl⟩) ?_ (fun x st hne hq => absurd hq.1 hne)
    rintro st ⟨-, g, rfl⟩
    refine FRwp.mono (fold_loop' (filS (pD d own)) [] (fun us i g => L56 f o vs.length c d own (ownB us) (!us.isEmpty) us.length i g) (fun us st => ∃ g, st = stOf 45 g [(7, vS (!us.isEmpty) 0 us.length 22)] [ownB us]) (fun us g hf => ?_) (fun i x us g hx hlt hf => ?_) g) fun e st q => by rw [fil_fold] at q; exact q
    · exact FRwp.pieceY c56_ok follows 1 _ _ _ _ (r56x f (!us.isEmpty) o (ownB us) vs.length c us.length vs.length d own g) (Met.cons (ltO_ok (by rw [hkk]; simp)) Met.nil) MetH.nil MetE.nil s56d rfl rfl (fix11 (ownB_inert us) []) fun g' => ⟨rfl, g', rfl⟩
    · have hft : f = true := by cases f with
        | true => rfl
        | false => rw [(hfl rfl).1] at hlt; simp at hlt
      subst hft
      have hr : ∃ ty ro, o = .cells ty (vrow vs) ro := by
        rcases hrow with h | h
        · rw [h] at hlt; simp at hlt
        · exact h
      have hul : us.length ≤ i := by
        rw [← hf, fil_fold]
        have := List.length_filter_le (pD d own) (vs.take i)
        rw [List.length_take] at this
        simp; omega
      have b0 : RowAt (h56 o (ownB us) own) 0 vs := rowAt0 hr
      have met : ∀ {l : List Obl}, Met l → Met (ltO i vs.length true :: LtA.ixO 0 vs.length c i :: ldO (h56 o (ownB us) own).get 34 0 (i * 7) (.agg ⟨vc x⟩) :: l) := fun hl => Met.cons (ltO_ok (decide_eq_true hlt)) (Met.cons (LtA.vidx_ok hlt) (Met.cons (LtA.vload_ok b0 hx) hl))
      have hnx : Met [nxt29 i] := Met.cons (wrap_up (by omega)) Met.nil
      have dok : ∀ {b : Bool}, pD d own x = b → (diO own x d b).1 = some (diO own x d b).2 := fun h => by show some (Value.bool (dirV own x == d)) = _; unfold pD at h; rw [h]; rfl
      cases h24 : pD d own x with
      | false =>
        refine FRwp.pieceY c56_ok follows 2 _ _ _ _ (r56f (!us.isEmpty) o (ownB us) vs.length c us.length i d x own g) (met (Met.cons (dok h24) hnx)) MetH.nil MetE.nil s56d rfl rfl (fx2 us _) fun g' => ⟨rfl, g', ?_⟩
        unfold filS; rw [h24]; rfl
      | true =>
        have g1 : (((h56 o (ownB us) own).push (LtA.vB x)).push (vB x)).get 1 = some (ownB us) := by rw [Hp.get_push, if_neg (by show (1 : Nat) ≠ 5; omega), Hp.get_push, if_neg (by show (1 : Nat) ≠ 4; omega)]; unfold h56; rw [heapOf0_get]; rfl
        have g5 : (((h56 o (ownB us) own).push (LtA.vB x)).push (vB x)).get 5 = some (vB x) := by rw [Hp.get_push, if_pos (by show (5 : Nat) = 5; rfl)]
        refine FRwp.pieceY c56_ok follows 2 _ _ _ _ (r56t (!us.isEmpty) o (ownB us) vs.length c us.length i d x own (us ++ [x]) g) (met (Met.cons (dok h24) hnx)) MetH.nil (MetE.cons (app_any rfl g1 g5 rfl (by omega)) MetE.nil) s56d rfl rfl
          (by rw [← ownB_ne (ne_app us x)]; exact fx2 _ _) fun g' => ⟨rfl, g', ?_⟩
        unfold filS; rw [h24, cond_true, isE_app, ownB_ne (ne_app us x)]
        have e1 : (us ++ [x]).length = us.length + 1 := by simp
        rw [e1]; rfl
  rintro st ⟨-, g, rfl⟩
  have hfl' : (vs.filter (pD d own)).length < 1000000 := by have := List.length_filter_le (pD d own) vs; omega
  have hfk : ∀ z ∈ vs.filter (pD d own), Kn z := fun z hz => pD_kn hd (List.mem_filter.1 hz).2
  unfold idsD
  generalize vs.filter (pD d own) = us at *
  cases us with
  | nil => exact FRwp.piece c56n_ok follows 0 _ _ _ _ (n56r g) Met.nil s56r rfl rfl rfl (noFix _) fun g => ⟨.inr rfl, rfl, q56 _ _ g, (fun B hB => by cases hB)⟩
  | cons w ws =>
    have hun : w :: ws ≠ [] := by simp
    generalize w :: ws = us at *
    rw [ownB_ne hun, isE_false hun]
    have hsl : (ssort ltV us).length = us.length := len_ssort
    have hcall : c56 76 [newS 0 us.length, Fc] (hW us) = some (vU, (hW us).put 0 (rowB (ssort ltV us))) := by rw [c56_76]; exact G76_of rfl (by omega) hfk (hW_get us)
    refine FRwp.seq (Q1 := fun e st => e = .normal ∧ ∃ g, st = stOf 45 g [(7, newS 0 us.length)] [rowB (ssort ltV us)]) (FRwp.pieceY c56_ok follows 1 _ _ _ _ (r56e us.length (ssort ltV us) us g) Met.nil (MetH.cons hcall MetH.nil) MetE.nil s56e rfl rfl (fix1 _ []) fun g => ⟨rfl, g, rfl⟩) ?_ (fun x st hne hq => absurd hq.1 hne)
    rintro st ⟨-, g, rfl⟩
    generalize ssort ltV us = ss at *
    rw [← hsl]
    have fx : ∀ r : List Blk, ∀ i, i < 2 → ∀ o', (rowB ss :: .dead :: r)[i]? = some o' → Fixed 0 o' := fixOO (row_block ss) rfl
    refine FRwp.seq (Q1 := fun e st => e = .normal ∧ ∃ g, st = stOf 45 g [(7, newS 0 ss.length), (10, nilS)] [rowB ss, .dead]) (FRwp.pieceY c56_ok follows 2 _ _ _ _ (r56g0 ss.length ss g) Met.nil MetH.nil MetE.nil s56f rfl rfl (fx []) fun g => ⟨rfl, g, rfl⟩) ?_ (fun x st hne hq => absurd hq.1 hne)
    rintro st ⟨-, g, rfl⟩
    refine FRwp.seq (Q1 := fun e st => e = .normal ∧ ∃ g, st = stOf 45 g [(10, rowIv (ss.map fun x => x.id) 0)] [ownI (ss.map fun x => x.id)]) ?_ ?_ (fun x st hne hq => absurd hq.1 hne)
    · refine FRwp.seq (Q1 := fun e st => e = .normal ∧ ∃ g, st = K56 ss .dead false ss.length 0 0 g) (FRwp.pieceY c56_ok follows 2 _ _ _ _ (r56g ss.length ss g) Met.nil MetH.nil MetE.nil s56g rfl rfl (fx []) fun g => ⟨rfl, g, rfl⟩) ?_ (fun x st hne hq => absurd hq.1 hne)
      rintro st ⟨-, g, rfl⟩
      refine FRwp.mono (fold_loop' (fun ids (x : ViewV) => ids ++ [x.id]) [] (fun ids i g => K56 ss (ownI ids) (!ids.isEmpty) ss.length ids.length i g) (fun ids st => ∃ g, st = stOf 45 g [(10, rowIv ids 0)] [ownI ids]) (fun ids g hf => ?_) (fun i x ids g hx hlt hf => ?_) g) fun e st q => by rw [map_fold] at q; exact q
      · rw [← vI_row]
        exact FRwp.pieceY c56_ok follows 1 _ _ _ _ (r56hx (!ids.isEmpty) (ownI ids) ss.length ids.length ss.length ss g) (Met.cons (ltO_ok (by simp)) Met.nil) MetH.nil MetE.nil s56h rfl rfl (fix11 (ownI_inert ids) []) fun g' => ⟨rfl, g', rfl⟩
      · have hil : ids.length ≤ i := by rw [← hf, map_fold]; simp; omega
        have b0 : RowAt (hK56 ss (ownI ids)) 0 ss := .of (ty := 81) (ro := false) (by unfold hK56; rw [heapOf0_get]; rfl)
        have g1 : (((hK56 ss (ownI ids)).push (vB x)).push (.cells 3 [icell x.id] false)).get 1 = some (ownI ids) := by rw [Hp.get_push, if_neg (by show (1 : Nat) ≠ 4; omega), Hp.get_push, if_neg (by show (1 : Nat) ≠ 3; omega)]; unfold hK56; rw [heapOf0_get]; rfl
        have g4 : (((hK56 ss (ownI ids)).push (vB x)).push (.cells 3 [icell x.id] false)).get 4 = some (.cells 3 [icell x.id] false) := by rw [Hp.get_push, if_pos (by show (4 : Nat) = 4; rfl)]
        refine FRwp.pieceY c56_ok follows 2 _ _ _ _ (r56h (!ids.isEmpty) (ownI ids) ss.length ids.length i x ss (ids ++ [x.id]) g) (Met.cons (ltO_ok (decide_eq_true hlt)) (Met.cons (vidx_ok hlt) (Met.cons (vload_ok b0 hx) (Met.cons (wrap_up (by omega)) Met.nil)))) MetH.nil (MetE.cons (app_anyI rfl g1 g4 rfl (by omega)) MetE.nil) s56h rfl rfl
          (by rw [← ownI_ne (ne_app ids x.id)]; exact fixOO (row_block ss) (ownI_inert _) []) fun g' => ⟨rfl, g', ?_⟩
        rw [isE_app, ownI_ne (ne_app ids x.id)]
        have e1 : (ids ++ [x.id]).length = ids.length + 1 := by simp
        rw [e1]; rfl
    · rintro st ⟨-, g, rfl⟩
      generalize ss.map (fun x => x.id) = ids at *
      have hr := r56i (!ids.isEmpty) (ownI ids) ids.length g
      rw [vI_row] at hr
      exact FRwp.pieceY c56_ok follows 1 _ _ _ _ hr Met.nil MetH.nil MetE.nil s56i rfl rfl (fix11 (ownI_inert ids) []) fun g => fin_row q56 ids g
noncomputable def G56 : HeapFn := padF (toldR ofR)
theorem hkG56 : CallGoal Try.prog 56 G56 := pad_goal (toldR_goal Try.func56 body56 (by kernel_rfl) ntmps56 fun vs hn => run56 vs hn)
theorem G56_of {vs : List ViewV} {s : Value} {hp : Hp} {d : Int} (own : ViewV) (hd : d = 1 ∨ d = 2) (h : TN vs s hp) (hn : vs.length < 1000000) : G56 [s, hcA own, .int .i64 d] hp = some (rowIv (idsD d own vs) hp.sz, heapOf [ownI (idsD d own vs), .dead] hp) := toldR_ids h hn (by show (if d = 1 ∨ d = 2 then _ else _) = _; rw [if_pos hd]; rfl)
/-! ### F19 -/
noncomputable def E19 : Ext := extG (extH Try.prog []) [(56, G56)]
theorem E19_ok : ExtOk Try.prog E19 := extG_ok (extH_ok (.nil)) (.cons hkG56 (.nil))
noncomputable def c19 : CallF := aCall Try.prog E19 5
theorem c19_ok : CallOk Try.prog c19 := aCall_sound E19_ok follows 5
theorem c19_56 (args : List Value) (hp : Hp) : c19 56 args hp = G56 args hp := by
  show aCall Try.prog E19 5 56 _ _ = _
  rw [aCall]; rfl
noncomputable def fb19 : Code := (Try.f19.body).getD .skip
theorem body19 : Try.f19.body = some fb19 := by kernel_rfl
theorem ntmps19 : Try.f19.ntmps = 8 := by kernel_rfl
theorem s19 : codeSafe Try.prog 8 fb19 = true := by kernel_rfl
theorem q19 (v : Value) (O : List Blk) (g : Nat → Value) : retVal Try.prog Try.f19 (stOf 8 g [(4, v)] O) = some v := by kernel_rfl
section
variable (fi : Bool) (o I : Blk) (own : ViewV) (n c k : Nat)
theorem r19t : (execE Try.prog c19 [] [(7, vI fi 3 k, [I, .dead])] [] 20 fb19 ⟨tmsOf [rowS 0 n c, hcA own] 0 .leaf, heapOf [o, .dead] hp0, []⟩).map (fun z => (look2 1 [3] [4] (z.1, z.2.1), z.2.2)) =
    some ((.ret, [I], [(4, vI fi 0 k)], true), [], [(c19 56 [rowS 0 n c, hcA own, .int .i64 1] (heapOf [o, .dead, hB own] hp0), (vI fi 3 k, heapOf [I, .dead] (heapOf [o, .dead, hB own] hp0)))], []) := by cases fi <;> kernel_rfl
theorem r19n : (execE Try.prog c19 [] [(7, vI fi 2 k, [I, .dead])] [] 20 fb19 ⟨tmsOf [nilS, hcA own] 0 .leaf, heapOf [.dead] hp0, []⟩).map (fun z => (look2 1 [2] [4] (z.1, z.2.1), z.2.2)) =
    some ((.ret, [I], [(4, vI fi 0 k)], true), [], [(c19 56 [nilS, hcA own, .int .i64 1] (heapOf [.dead, hB own] hp0), (vI fi 2 k, heapOf [I, .dead] (heapOf [.dead, hB own] hp0)))], []) := by cases fi <;> kernel_rfl
end
def wayR19 (vs : List ViewV) : Ans := fun rest => match rest with
  | [v] => (unH v).map fun own => (rowIv (idsD 1 own vs) 0, rowIO (idsD 1 own vs))
  | _ => none
theorem run19 (vs : List ViewV) (hn : vs.length < 1000000) : ∀ rest v0 O, wayR19 vs rest = some (v0, O) → RowRun Try.f19 fb19 8 vs rest v0 O := fun rest v0 O h => by
  unfold wayR19 at h
  split at h
  case h_2 => cases h
  rename_i v
  obtain ⟨own, hown, h2⟩ := Option.map_eq_some_iff.1 h
  obtain rfl := unH_some hown
  cases h2
  refine ⟨rowI_out _, rowI_ok _, (by intro r hr; have e : r = hcA own := (by simpa using hr); rw [e]; exact stay_h _), by simp, fun f o c W ho hrow hfl => ?_⟩
  cases f with
  | true =>
    have h := (c19_56 [rowS 0 vs.length c, hcA own, .int .i64 1] (heapOf [o, .dead, hB own] hp0)).trans (G56_of (d := 1) own (by simp) (.inr ⟨0, c, o, rfl, by rw [heapOf0_get]; rfl, ho, hrow⟩) hn)
    generalize idsD 1 own vs = ids at *
    have hr := r19t (!ids.isEmpty) o (ownI ids) own vs.length c ids.length
    rw [vI_row, vI_row] at hr
    exact FRwp.pieceY c19_ok follows 1 _ _ _ _ hr Met.nil (MetH.cons h MetH.nil) MetE.nil s19 rfl rfl (fix11 (ownI_inert ids) []) fun g => fin_row q19 ids g
  | false =>
    obtain ⟨rfl, rfl⟩ := hfl rfl
    have h := (c19_56 [nilS, hcA own, .int .i64 1] (heapOf [.dead, hB own] hp0)).trans (G56_of (vs := []) (d := 1) own (by simp) (.inl ⟨rfl, rfl⟩) (by simp))
    generalize idsD 1 own [] = ids at *
    have hr := r19n (!ids.isEmpty) (ownI ids) own ids.length
    rw [vI_row, vI_row] at hr
    exact FRwp.pieceY c19_ok follows 1 _ _ _ _ hr Met.nil (MetH.cons h MetH.nil) MetE.nil s19 rfl rfl (fix11 (ownI_inert ids) []) fun g => fin_row q19 ids g
noncomputable def G19 : HeapFn := padF (toldR wayR19)
theorem hkG19 : CallGoal Try.prog 19 G19 := pad_goal (toldR_goal Try.func19 body19 (by kernel_rfl) ntmps19 fun vs hn => run19 vs hn)
theorem G19_of {vs : List ViewV} {s : Value} {hp : Hp} (own : ViewV) (h : TN vs s hp) (hn : vs.length < 1000000) : G19 [s, hcA own] hp = some (rowIv (idsD 1 own vs) hp.sz, heapOf [ownI (idsD 1 own vs), .dead] hp) := toldR_ids h hn rfl
/-! ### F20 -/
noncomputable def E20 : Ext := extG (extH Try.prog []) [(56, G56)]
theorem E20_ok : ExtOk Try.prog E20 := extG_ok (extH_ok (.nil)) (.cons hkG56 (.nil))
noncomputable def c20 : CallF := aCall Try.prog E20 5
theorem c20_ok : CallOk Try.prog c20 := aCall_sound E20_ok follows 5
theorem c20_56 (args : List Value) (hp : Hp) : c20 56 args hp = G56 args hp := by
  show aCall Try.prog E20 5 56 _ _ = _
  rw [aCall]; rfl
noncomputable def fb20 : Code := (Try.f20.body).getD .skip
theorem body20 : Try.f20.body = some fb20 := by kernel_rfl
theorem ntmps20 : Try.f20.ntmps = 8 := by kernel_rfl
theorem s20 : codeSafe Try.prog 8 fb20 = true := by kernel_rfl
theorem q20 (v : Value) (O : List Blk) (g : Nat → Value) : retVal Try.prog Try.f20 (stOf 8 g [(4, v)] O) = some v := by kernel_rfl
section
variable (fi : Bool) (o I : Blk) (own : ViewV) (n c k : Nat)
theorem r20t : (execE Try.prog c20 [] [(7, vI fi 3 k, [I, .dead])] [] 20 fb20 ⟨tmsOf [rowS 0 n c, hcA own] 0 .leaf, heapOf [o, .dead] hp0, []⟩).map (fun z => (look2 1 [3] [4] (z.1, z.2.1), z.2.2)) =
    some ((.ret, [I], [(4, vI fi 0 k)], true), [], [(c20 56 [rowS 0 n c, hcA own, .int .i64 2] (heapOf [o, .dead, hB own] hp0), (vI fi 3 k, heapOf [I, .dead] (heapOf [o, .dead, hB own] hp0)))], []) := by cases fi <;> kernel_rfl
theorem r20n : (execE Try.prog c20 [] [(7, vI fi 2 k, [I, .dead])] [] 20 fb20 ⟨tmsOf [nilS, hcA own] 0 .leaf, heapOf [.dead] hp0, []⟩).map (fun z => (look2 1 [2] [4] (z.1, z.2.1), z.2.2)) =
    some ((.ret, [I], [(4, vI fi 0 k)], true), [], [(c20 56 [nilS, hcA own, .int .i64 2] (heapOf [.dead, hB own] hp0), (vI fi 2 k, heapOf [I, .dead] (heapOf [.dead, hB own] hp0)))], []) := by cases fi <;> kernel_rfl
end
def wayR20 (vs : List ViewV) : Ans := fun rest => match rest with
  | [v] => (unH v).map fun own => (rowIv (idsD 2 own vs) 0, rowIO (idsD 2 own vs))
  | _ => none
theorem run20 (vs : List ViewV) (hn : vs.length < 1000000) : ∀ rest v0 O, wayR20 vs rest = some (v0, O) → RowRun Try.f20 fb20 8 vs rest v0 O := fun rest v0 O h => by
  unfold wayR20 at h
  split at h
  case h_2 => cases h
  rename_i v
  obtain ⟨own, hown, h2⟩ := Option.map_eq_some_iff.1 h
  obtain rfl := unH_some hown
  cases h2
  refine ⟨rowI_out _, rowI_ok _, (by intro r hr; have e : r = hcA own := (by simpa using hr); rw [e]; exact stay_h _), by simp, fun f o c W ho hrow hfl => ?_⟩
  cases f with
  | true =>
    have h := (c20_56 [rowS 0 vs.length c, hcA own, .int .i64 2] (heapOf [o, .dead, hB own] hp0)).trans (G56_of (d := 2) own (by simp) (.inr ⟨0, c, o, rfl, by rw [heapOf0_get]; rfl, ho, hrow⟩) hn)
    generalize idsD 2 own vs = ids at *
    have hr := r20t (!ids.isEmpty) o (ownI ids) own vs.length c ids.length
    rw [vI_row, vI_row] at hr
    exact FRwp.pieceY c20_ok follows 1 _ _ _ _ hr Met.nil (MetH.cons h MetH.nil) MetE.nil s20 rfl rfl (fix11 (ownI_inert ids) []) fun g => fin_row q20 ids g
  | false =>
    obtain ⟨rfl, rfl⟩ := hfl rfl
    have h := (c20_56 [nilS, hcA own, .int .i64 2] (heapOf [.dead, hB own] hp0)).trans (G56_of (vs := []) (d := 2) own (by simp) (.inl ⟨rfl, rfl⟩) (by simp))
    generalize idsD 2 own [] = ids at *
    have hr := r20n (!ids.isEmpty) (ownI ids) own ids.length
    rw [vI_row, vI_row] at hr
    exact FRwp.pieceY c20_ok follows 1 _ _ _ _ hr Met.nil (MetH.cons h MetH.nil) MetE.nil s20 rfl rfl (fix11 (ownI_inert ids) []) fun g => fin_row q20 ids g
noncomputable def G20 : HeapFn := padF (toldR wayR20)
theorem hkG20 : CallGoal Try.prog 20 G20 := pad_goal (toldR_goal Try.func20 body20 (by kernel_rfl) ntmps20 fun vs hn => run20 vs hn)
theorem G20_of {vs : List ViewV} {s : Value} {hp : Hp} (own : ViewV) (h : TN vs s hp) (hn : vs.length < 1000000) : G20 [s, hcA own] hp = some (rowIv (idsD 2 own vs) hp.sz, heapOf [ownI (idsD 2 own vs), .dead] hp) := toldR_ids h hn rfl
/-! ### Next -/
noncomputable def E22 : Ext := extG (extH Try.prog []) [(19, G19)]
theorem E22_ok : ExtOk Try.prog E22 := extG_ok (extH_ok (.nil)) (.cons hkG19 (.nil))
noncomputable def c22 : CallF := aCall Try.prog E22 5
theorem c22_ok : CallOk Try.prog c22 := aCall_sound E22_ok follows 5
theorem c22_19 (args : List Value) (hp : Hp) : c22 19 args hp = G19 args hp := by
  show aCall Try.prog E22 5 19 _ _ = _
  rw [aCall]; rfl
noncomputable def fb22 : Code := (Try.f22.body).getD .skip
theorem body22 : Try.f22.body = some fb22 := by kernel_rfl
theorem ntmps22 : Try.f22.ntmps = 16 := by kernel_rfl
theorem s22 : codeSafe Try.prog 16 fb22 = true := by kernel_rfl
theorem q22 (v u : Value) (O : List Blk) (g : Nat → Value) : retVal Try.prog Try.f22 (stOf 16 g [(4, v), (5, u)] O) = some (.tuple #[v, u]) := by kernel_rfl
section
variable (o I : Blk) (own : ViewV) (n c k : Nat) (z : Int)
theorem r22t : (execE Try.prog c22 [(12, .bool true), (14, pb 3 0), (15, .int .i64 z)] [(9, newI 3 k, [I, .dead])] [] 20 fb22 ⟨tmsOf [rowS 0 n c, hcA own] 0 .leaf, heapOf [o, .dead] hp0, []⟩).map (fun z => (look2 0 [] [4, 5] (z.1, z.2.1), z.2.2)) =
    some ((.ret, [], [(4, .int .i64 z), (5, .bool true)], true), [gtO k 0 true, ixI 3 k 0, ldO (heapOf [I, .dead] (heapOf [o, .dead, hB own] hp0)).get 3 3 0 (.int .i64 z)], [(c22 19 [rowS 0 n c, hcA own] (heapOf [o, .dead, hB own] hp0), (newI 3 k, heapOf [I, .dead] (heapOf [o, .dead, hB own] hp0)))], []) := by kernel_rfl
theorem r22te : (execE Try.prog c22 [] [(9, nilS, [I, .dead])] [] 20 fb22 ⟨tmsOf [rowS 0 n c, hcA own] 0 .leaf, heapOf [o, .dead] hp0, []⟩).map (fun z => (look2 0 [] [4, 5] (z.1, z.2.1), z.2.2)) =
    some ((.ret, [], [(4, .int .i64 0), (5, .bool false)], true), [], [(c22 19 [rowS 0 n c, hcA own] (heapOf [o, .dead, hB own] hp0), (nilS, heapOf [I, .dead] (heapOf [o, .dead, hB own] hp0)))], []) := by kernel_rfl
theorem r22n : (execE Try.prog c22 [(12, .bool true), (14, pb 2 0), (15, .int .i64 z)] [(9, newI 2 k, [I, .dead])] [] 20 fb22 ⟨tmsOf [nilS, hcA own] 0 .leaf, heapOf [.dead] hp0, []⟩).map (fun z => (look2 0 [] [4, 5] (z.1, z.2.1), z.2.2)) =
    some ((.ret, [], [(4, .int .i64 z), (5, .bool true)], true), [gtO k 0 true, ixI 2 k 0, ldO (heapOf [I, .dead] (heapOf [.dead, hB own] hp0)).get 3 2 0 (.int .i64 z)], [(c22 19 [nilS, hcA own] (heapOf [.dead, hB own] hp0), (newI 2 k, heapOf [I, .dead] (heapOf [.dead, hB own] hp0)))], []) := by kernel_rfl
theorem r22ne : (execE Try.prog c22 [] [(9, nilS, [I, .dead])] [] 20 fb22 ⟨tmsOf [nilS, hcA own] 0 .leaf, heapOf [.dead] hp0, []⟩).map (fun z => (look2 0 [] [4, 5] (z.1, z.2.1), z.2.2)) =
    some ((.ret, [], [(4, .int .i64 0), (5, .bool false)], true), [], [(c22 19 [nilS, hcA own] (heapOf [.dead, hB own] hp0), (nilS, heapOf [I, .dead] (heapOf [.dead, hB own] hp0)))], []) := by kernel_rfl
end
/-- The next one. -/
def nxtA (own : ViewV) (vs : List ViewV) : Value := match idsD 1 own vs with
  | [] => .tuple #[.int .i64 0, .bool false]
  | z :: _ => .tuple #[.int .i64 z, .bool true]
def nxtR (vs : List ViewV) : Ans := fun rest => match rest with
  | [v] => (unH v).map fun own => (nxtA own vs, [])
  | _ => none
theorem nxtA_ok (own : ViewV) (vs : List ViewV) : ok3 (nxtA own vs) = true := by unfold nxtA; split <;> rfl
theorem run22 (vs : List ViewV) (hn : vs.length < 1000000) : ∀ rest v0 O, nxtR vs rest = some (v0, O) → RowRun Try.f22 fb22 16 vs rest v0 O := fun rest v0 O h => by
  unfold nxtR at h
  split at h
  case h_2 => cases h
  rename_i v
  obtain ⟨own, hown, h2⟩ := Option.map_eq_some_iff.1 h
  obtain rfl := unH_some hown
  cases h2
  refine ⟨.inl rfl, nxtA_ok _ _, (by intro r hr; have e : r = hcA own := (by simpa using hr); rw [e]; exact stay_h _), by simp, fun f o c W ho hrow hfl => ?_⟩
  have hg : ∀ {k : Nat}, (gtO (k + 1) 0 true).1 = some (gtO (k + 1) 0 true).2 := fun {k} => gtO_ok (by simp)
  cases f with
  | true =>
    have h := (c22_19 [rowS 0 vs.length c, hcA own] (heapOf [o, .dead, hB own] hp0)).trans (G19_of own (.inr ⟨0, c, o, rfl, by rw [heapOf0_get]; rfl, ho, hrow⟩) hn)
    unfold nxtA
    generalize idsD 1 own vs = ids at *
    cases ids with
    | nil => exact FRwp.pieceY c22_ok follows 0 _ _ _ _ (r22te o .dead own vs.length c) Met.nil (MetH.cons h MetH.nil) MetE.nil s22 rfl rfl (noFix _) fun g => ⟨.inr rfl, rfl, q22 _ _ _ g, (fun B hB => by cases hB)⟩
    | cons z ids => exact FRwp.pieceY c22_ok follows 0 _ _ _ _ (r22t o (iB (z :: ids)) own vs.length c (ids.length + 1) z) (Met.cons hg (Met.cons (ixI_ok (by omega)) (Met.cons (ldA_ok (isI (z :: ids)) (by rw [heapOf_get]; rfl) rfl) Met.nil))) (MetH.cons h MetH.nil) MetE.nil s22 rfl rfl (noFix _) fun g => ⟨.inr rfl, rfl, q22 _ _ _ g, (fun B hB => by cases hB)⟩
  | false =>
    obtain ⟨rfl, rfl⟩ := hfl rfl
    have h := (c22_19 [nilS, hcA own] (heapOf [.dead, hB own] hp0)).trans (G19_of (vs := []) own (.inl ⟨rfl, rfl⟩) (by simp))
    unfold nxtA
    generalize idsD 1 own [] = ids at *
    cases ids with
    | nil => exact FRwp.pieceY c22_ok follows 0 _ _ _ _ (r22ne .dead own) Met.nil (MetH.cons h MetH.nil) MetE.nil s22 rfl rfl (noFix _) fun g => ⟨.inr rfl, rfl, q22 _ _ _ g, (fun B hB => by cases hB)⟩
    | cons z ids => exact FRwp.pieceY c22_ok follows 0 _ _ _ _ (r22n (iB (z :: ids)) own (ids.length + 1) z) (Met.cons hg (Met.cons (ixI_ok (by omega)) (Met.cons (ldA_ok (isI (z :: ids)) (by rw [heapOf_get]; rfl) rfl) Met.nil))) (MetH.cons h MetH.nil) MetE.nil s22 rfl rfl (noFix _) fun g => ⟨.inr rfl, rfl, q22 _ _ _ g, (fun B hB => by cases hB)⟩
noncomputable def G22 : HeapFn := toldR nxtR
theorem hkG22 : CallGoal Try.prog 22 G22 := toldR_goal Try.func22 body22 (by kernel_rfl) ntmps22 fun vs hn => run22 vs hn
theorem G22_of {vs : List ViewV} {s : Value} {hp : Hp} (own : ViewV) (h : TN vs s hp) (hn : vs.length < 1000000) : G22 [s, hcA own] hp = some (nxtA own vs, heapOf [.dead] hp) := toldR_none h hn rfl (by unfold nxtA; split <;> simp [sh3, sh2, sh1])
end Go.Proofs.Ytiogdklmhpllfaa.LtL
namespace Go.Proofs.Ytiogdklmhpllfaa.LtL
open Go Go.Proofs Go.Proofs.Ytiogdklmhpllfaa.AI Go.RowKit Go.Proofs.Ytiogdklmhpllfaa.Sort Go.Proofs.Ytiogdklmhpllfaa.LtA

def g16 : List Value → Option Value
  | [] => some (.bool true)
  | _ => none
theorem awake_run : (aCall Try.prog (extOf Try.prog) 4000 16 [] hp0).map (fun r => r.1) = some (.bool true) := by kernel_rfl
theorem hk16 : HookGoal Try.prog 16 g16 := hook_of (ext := extOf Try.prog) (extOf_ok _) follows Try.func16 (by kernel_rfl) fun args v h => by
  unfold g16 at h
  split at h
  · cases h
    obtain ⟨⟨u, hp⟩, h1, h2⟩ := Option.map_eq_some_iff.1 awake_run
    simp only at h2
    subst h2
    exact ⟨rfl, rfl, _, hp, h1⟩
  · cases h
noncomputable def E4S : Ext := extG (extH Try.prog [(16, g16), (15, g15)]) [(18, G18), (19, G19), (20, G20), (21, G21), (22, G22), (24, G24), (25, G25), (23, gSI)]
theorem E4S_ok : ExtOk Try.prog E4S := extG_ok (extH_ok (.cons hk16 (.cons hk15 (.nil)))) (.cons hkG18 (.cons hkG19 (.cons hkG20 (.cons hkG21 (.cons hkG22 (.cons hkG24 (.cons hkG25 (.cons hkSI (.nil)))))))))
noncomputable def c4 : CallF := aCall Try.prog E4S 5
theorem c4_ok : CallOk Try.prog c4 := aCall_sound E4S_ok follows 5
theorem c4_18 (args : List Value) (hp : Hp) : c4 18 args hp = G18 args hp := by
  show aCall Try.prog E4S 5 18 _ _ = _
  rw [aCall]; rfl
theorem c4_19 (args : List Value) (hp : Hp) : c4 19 args hp = G19 args hp := by
  show aCall Try.prog E4S 5 19 _ _ = _
  rw [aCall]; rfl
theorem c4_20 (args : List Value) (hp : Hp) : c4 20 args hp = G20 args hp := by
  show aCall Try.prog E4S 5 20 _ _ = _
  rw [aCall]; rfl
theorem c4_21 (args : List Value) (hp : Hp) : c4 21 args hp = G21 args hp := by
  show aCall Try.prog E4S 5 21 _ _ = _
  rw [aCall]; rfl
theorem c4_22 (args : List Value) (hp : Hp) : c4 22 args hp = G22 args hp := by
  show aCall Try.prog E4S 5 22 _ _ = _
  rw [aCall]; rfl
theorem c4_24 (args : List Value) (hp : Hp) : c4 24 args hp = G24 args hp := by
  show aCall Try.prog E4S 5 24 _ _ = _
  rw [aCall]; rfl
theorem c4_25 (args : List Value) (hp : Hp) : c4 25 args hp = G25 args hp := by
  show aCall Try.prog E4S 5 25 _ _ = _
  rw [aCall]; rfl
theorem c4_23 (args : List Value) (hp : Hp) : c4 23 args hp = gSI args hp := by
  show aCall Try.prog E4S 5 23 _ _ = _
  rw [aCall]; rfl
noncomputable def fb4 : Code := (Try.f4.body).getD .skip
noncomputable def p4 : Nat → Code
  | 0 => fb4
  | n + 1 => sR (p4 n)
noncomputable def c4a : Code := sL (p4 0)
noncomputable def c4b : Code := sL (p4 1)
noncomputable def c4c : Code := sL (p4 2)
noncomputable def c4d : Code := sL (p4 3)
noncomputable def c4e : Code := sL (p4 4)
noncomputable def c4f : Code := sL (sL (p4 5))
noncomputable def c4g : Code := unL (unB (sR (sL (p4 5))))
noncomputable def c4h : Code := sL (p4 6)
noncomputable def c4i : Code := sL (p4 7)
noncomputable def c4j : Code := sL (p4 8)
noncomputable def c4k : Code := sL (p4 9)
noncomputable def c4l : Code := p4 10
noncomputable abbrev code4 : Code := .seq c4a (.seq c4b (.seq c4c (.seq c4d (.seq c4e (.seq (.seq c4f (.block 0 (.loop c4g))) (.seq c4h (.seq c4i (.seq c4j (.seq c4k c4l)))))))))
theorem body4 : Try.f4.body = some code4 := by kernel_rfl
theorem ntmps4 : Try.f4.ntmps = 121 := by kernel_rfl
theorem s4a : codeSafe Try.prog 121 c4a = true := by kernel_rfl
theorem s4b : codeSafe Try.prog 121 c4b = true := by kernel_rfl
theorem s4c : codeSafe Try.prog 121 c4c = true := by kernel_rfl
theorem s4d : codeSafe Try.prog 121 c4d = true := by kernel_rfl
theorem s4e : codeSafe Try.prog 121 c4e = true := by kernel_rfl
theorem s4f : codeSafe Try.prog 121 c4f = true := by kernel_rfl
theorem s4g : codeSafe Try.prog 121 c4g = true := by kernel_rfl
theorem s4h : codeSafe Try.prog 121 c4h = true := by kernel_rfl
theorem s4i : codeSafe Try.prog 121 c4i = true := by kernel_rfl
theorem s4j : codeSafe Try.prog 121 c4j = true := by kernel_rfl
theorem s4k : codeSafe Try.prog 121 c4k = true := by kernel_rfl
theorem s4l : codeSafe Try.prog 121 c4l = true := by kernel_rfl
theorem q4 (v : Value) (O : List Blk) (g : Nat → Value) : retVal Try.prog Try.f4 (stOf 121 g [(4, v)] O) = some v := by kernel_rfl
section
variable (f fa fb b lb : Bool) (o A B B1 B2 : Blk) (n c i q ka kb : Nat) (z : Int) (x y own : ViewV) (w1 w2 : Value) (g : Nat → Value)
theorem r4a : (execE Try.prog c4 [] [] [] 20 c4a ⟨tmsOf [vS f 0 n c, hcA own] 0 .leaf, heapOf [o, .dead] hp0, []⟩).map (fun z => (look2 1 [0, 2] [0, 3] (z.1, z.2.1), z.2.2)) =
    some ((.normal, [o, hB own], [(0, vS f 0 n c), (3, pb 1 0)], true), [], [], []) := by cases f <;> kernel_rfl
theorem r4b1 : (execE Try.prog c4 [(15, .bool true)] [] [] 20 c4b (stOf 121 g [(0, vS f 0 n c), (3, pb 1 0)] [o, hB own])).map (fun z => (look2 0 [] [4] (z.1, z.2.1), z.2.2)) =
    some ((.ret, [], [(4, .bool true)], true), [(some (.bool (decide (Int.ofNat (kk f n) > 80))), .bool true)], [], []) := by cases f <;> kernel_rfl
def h4 (o : Blk) (own : ViewV) : Hp := heapOf ([o, hB own] ++ [.dead]) hp0
theorem r4b2 : (execE Try.prog c4 [(15, .bool false), (19, .bool true)] [(18, .int .i64 z, [.dead])] [] 20 c4b (stOf 121 g [(0, vS f 0 n c), (3, pb 1 0)] [o, hB own])).map (fun z => (look2 0 [] [4] (z.1, z.2.1), z.2.2)) =
    some ((.ret, [], [(4, .bool true)], true), [(some (.bool (decide (Int.ofNat (kk f n) > 80))), .bool false), (some (.bool (z != 0)), .bool true)], [(c4 18 [vS f 0 n c] (h4 o own), (.int .i64 z, heapOf [.dead] (h4 o own)))], []) := by cases f <;> kernel_rfl
theorem r4b3 : (execE Try.prog c4 [(15, .bool false), (19, .bool false), (24, .bool true)] [(18, .int .i64 z, [.dead])] [] 20 c4b (stOf 121 g [(0, vS f 0 n c), (3, pb 1 0)] [o, hB own])).map (fun z => (look2 0 [] [4] (z.1, z.2.1), z.2.2)) =
    some ((.ret, [], [(4, .bool true)], true), [(some (.bool (decide (Int.ofNat (kk f n) > 80))), .bool false), (some (.bool (z != 0)), .bool false), chO own true], [(c4 18 [vS f 0 n c] (h4 o own), (.int .i64 z, heapOf [.dead] (h4 o own)))], []) := by cases f <;> kernel_rfl
theorem r4b4 : (execE Try.prog c4 [(15, .bool false), (19, .bool false), (24, .bool false)] [(18, .int .i64 z, [.dead])] [] 20 c4b (stOf 121 g [(0, vS f 0 n c), (3, pb 1 0)] [o, hB own])).map (fun z => (look2 1 [0, 1] [0, 3] (z.1, z.2.1), z.2.2)) =
    some ((.normal, [o, hB own], [(0, vS f 0 n c), (3, pb 1 0)], true), [(some (.bool (decide (Int.ofNat (kk f n) > 80))), .bool false), (some (.bool (z != 0)), .bool false), chO own false], [(c4 18 [vS f 0 n c] (h4 o own), (.int .i64 z, heapOf [.dead] (h4 o own)))], []) := by cases f <;> kernel_rfl
theorem r4c : (execE Try.prog c4 [] [(29, vI fa 3 ka, [A, .dead])] [] 20 c4c (stOf 121 g [(0, vS f 0 n c), (3, pb 1 0)] [o, hB own])).map (fun z => (look2 2 [0, 3, 1] [0, 3, 5] (z.1, z.2.1), z.2.2)) =
    some ((.normal, [o, A, hB own], [(0, vS f 0 n c), (3, pb 2 0), (5, vI fa 1 ka)], true), [], [(c4 19 [vS f 0 n c, hcA own] (h4 o own), (vI fa 3 ka, heapOf [A, .dead] (h4 o own)))], []) := by cases f <;> cases fa <;> kernel_rfl
def h4A (o A : Blk) (own : ViewV) : Hp := heapOf ([o, A, hB own] ++ [.dead]) hp0
theorem r4d : (execE Try.prog c4 [] [(32, vI fb 4 kb, [B, .dead])] [] 20 c4d (stOf 121 g [(0, vS f 0 n c), (3, pb 2 0), (5, vI fa 1 ka)] [o, A, hB own])).map (fun z => (look2 3 [0, 1, 4, 2] [0, 3, 5, 6] (z.1, z.2.1), z.2.2)) =
    some ((.normal, [o, A, B, hB own], [(0, vS f 0 n c), (3, pb 3 0), (5, vI fa 1 ka), (6, vI fb 2 kb)], true), [], [(c4 20 [vS f 0 n c, hcA own] (h4A o A own), (vI fb 4 kb, heapOf [B, .dead] (h4A o A own)))], []) := by cases f <;> cases fa <;> cases fb <;> kernel_rfl
theorem r4e : (execE Try.prog c4 [] [] [] 20 c4e (stOf 121 g [(0, vS f 0 n c), (3, pb 3 0), (5, vI fa 1 ka), (6, vI fb 2 kb)] [o, A, B, hB own])).map (fun z => (look2 3 [0, 1, 2, 3] [0, 3, 5, 6, 7] (z.1, z.2.1), z.2.2)) =
    some ((.normal, [o, A, B, hB own], [(0, vS f 0 n c), (3, pb 3 0), (5, vI fa 1 ka), (6, vI fb 2 kb), (7, iN 0)], true), [], [], []) := by cases f <;> cases fa <;> cases fb <;> kernel_rfl
theorem r4f : (execE Try.prog c4 [] [] [] 20 c4f (stOf 121 g [(0, vS f 0 n c), (3, pb 3 0), (5, vI fa 1 ka), (6, vI fb 2 kb), (7, iN 0)] [o, A, B, hB own])).map (fun z => (look2 3 [0, 1, 2, 3] [0, 3, 5, 6, 7, 8] (z.1, z.2.1), z.2.2)) =
    some ((.normal, [o, A, B, hB own], [(0, vS f 0 n c), (3, pb 3 0), (5, vI fa 1 ka), (6, vI fb 2 kb), (7, iN 0), (8, iN 0)], true), [], [], []) := by cases f <;> cases fa <;> cases fb <;> kernel_rfl
abbrev M4 (q : Nat) (g : Nat → Value) : St := (stOf 121 g [(0, vS f 0 n c), (3, pb 3 0), (5, vI fa 1 ka), (6, vI fb 2 kb), (7, iN q)] [o, A, B, hB own])
abbrev L4 (q i : Nat) (g : Nat → Value) : St := (stOf 121 g [(0, vS f 0 n c), (3, pb 3 0), (5, vI fa 1 ka), (6, vI fb 2 kb), (7, iN q), (8, iN i)] [o, A, B, hB own])
def h4B (o A B : Blk) (own : ViewV) : Hp := heapOf ([o, A, B, hB own] ++ [.dead]) hp0
theorem r4gx : (execE Try.prog c4 [(36, .bool false)] [] [] 20 c4g (L4 f fa fb o A B n c ka kb own q i g)).map (fun z => (look2 3 [0, 1, 2, 3] [0, 3, 5, 6, 7] (z.1, z.2.1), z.2.2)) =
    some ((.exit 0, [o, A, B, hB own], [(0, vS f 0 n c), (3, pb 3 0), (5, vI fa 1 ka), (6, vI fb 2 kb), (7, iN q)], true), [ltO i (kk f n) false], [], []) := by cases f <;> cases fa <;> cases fb <;> kernel_rfl
theorem r4g1 : (execE Try.prog c4 [(36, .bool true), (41, pb 0 (i * 7)), (44, .bool x.n), (45, .bool false), (38, iN (i + 1))] [] [] 20 c4g (L4 true fa fb o A B n c ka kb own q i g)).map (fun z => (look2 3 [0, 1, 2, 3] [0, 3, 5, 6, 7, 8] (z.1, z.2.1), z.2.2)) =
    some ((.normal, [o, A, B, hB own], [(0, rowS 0 n c), (3, pb 3 0), (5, vI fa 1 ka), (6, vI fb 2 kb), (7, iN q), (8, iN (i + 1))], true), [ltO i n true, LtA.ixO 0 n c i, ldO (h4B o A B own).get 4 0 (i * 7 + 1) (.bool x.n), (some (.bool (!x.n)), .bool false), nxt29 i], [], []) := by cases fa <;> cases fb <;> kernel_rfl
theorem r4g2 : (execE Try.prog c4 [(36, .bool true), (41, pb 0 (i * 7)), (44, .bool x.n), (45, .bool true), (49, pb 0 (i * 7)), (51, hcA x), (53, .bool false), (38, iN (i + 1))] [] [] 20 c4g (L4 true fa fb o A B n c ka kb own q i g)).map (fun z => (look2 3 [0, 1, 2, 3] [0, 3, 5, 6, 7, 8] (z.1, z.2.1), z.2.2)) =
    some ((.normal, [o, A, B, hB own], [(0, rowS 0 n c), (3, pb 3 0), (5, vI fa 1 ka), (6, vI fb 2 kb), (7, iN q), (8, iN (i + 1))], true), [ltO i n true, LtA.ixO 0 n c i, ldO (h4B o A B own).get 4 0 (i * 7 + 1) (.bool x.n), (some (.bool (!x.n)), .bool true), LtA.ixO 0 n c i, ldO (h4B o A B own).get 23 0 (i * 7 + 1) (hcA x), (fstV ((aBin Try.prog .neq 23 (hcA x) (hcA own)).map fun v => (v, none)), .bool false), nxt29 i], [], []) := by cases fa <;> cases fb <;> kernel_rfl
theorem r4g3 : (execE Try.prog c4 [(36, .bool true), (41, pb 0 (i * 7)), (44, .bool x.n), (45, .bool true), (49, pb 0 (i * 7)), (51, hcA x), (53, .bool true), (56, iN (q + 1)), (38, iN (i + 1))] [] [] 20 c4g (L4 true fa fb o A B n c ka kb own q i g)).map (fun z => (look2 3 [0, 1, 2, 3] [0, 3, 5, 6, 7, 8] (z.1, z.2.1), z.2.2)) =
    some ((.normal, [o, A, B, hB own], [(0, rowS 0 n c), (3, pb 3 0), (5, vI fa 1 ka), (6, vI fb 2 kb), (7, iN (q + 1)), (8, iN (i + 1))], true), [ltO i n true, LtA.ixO 0 n c i, ldO (h4B o A B own).get 4 0 (i * 7 + 1) (.bool x.n), (some (.bool (!x.n)), .bool true), LtA.ixO 0 n c i, ldO (h4B o A B own).get 23 0 (i * 7 + 1) (hcA x), (fstV ((aBin Try.prog .neq 23 (hcA x) (hcA own)).map fun v => (v, none)), .bool true), nxt29 q, nxt29 i], [], []) := by cases fa <;> cases fb <;> kernel_rfl
theorem r4h : (execE Try.prog c4 [] [(59, .tuple #[.agg ⟨vc y⟩, .bool lb], [.dead])] [] 20 c4h (M4 f fa fb o A B n c ka kb own q g)).map (fun z => (look2 3 [0, 1, 2, 3, 6] [0, 3, 5, 6, 7, 9] (z.1, z.2.1), z.2.2)) =
    some ((.normal, [o, A, B, hB own, LtA.vB y], [(0, vS f 0 n c), (3, pb 3 0), (5, vI fa 1 ka), (6, vI fb 2 kb), (7, iN q), (9, pb 4 0)], true), [], [(c4 21 [vS f 0 n c] (h4B o A B own), (.tuple #[.agg ⟨vc y⟩, .bool lb], heapOf [.dead] (h4B o A B own)))], []) := by cases f <;> cases fa <;> cases fb <;> kernel_rfl
def h4C (o A B : Blk) (own y : ViewV) : Hp := heapOf ([o, A, B, hB own, LtA.vB y] ++ [.dead]) hp0
theorem r4i : (execE Try.prog c4 [] [(65, .tuple #[.int .i64 z, .bool fa], [.dead])] [] 20 c4i (stOf 121 g [(0, vS f 0 n c), (3, pb 3 0), (5, vI fa 1 ka), (6, vI fb 2 kb), (7, iN q), (9, pb 4 0)] [o, A, B, hB own, LtA.vB y])).map (fun z => (look2 3 [0, 1, 2, 3, 4] [0, 3, 5, 6, 7, 9, 11, 12] (z.1, z.2.1), z.2.2)) =
    some ((.normal, [o, A, B, hB own, LtA.vB y], [(0, vS f 0 n c), (3, pb 3 0), (5, vI fa 1 ka), (6, vI fb 2 kb), (7, iN q), (9, pb 4 0), (11, .int .i64 z), (12, .bool fa)], true), [], [(c4 22 [vS f 0 n c, hcA own] (h4C o A B own y), (.tuple #[.int .i64 z, .bool fa], heapOf [.dead] (h4C o A B own y)))], []) := by cases f <;> cases fa <;> cases fb <;> kernel_rfl
theorem r4jt : (execE Try.prog c4 [(71, .bool true), (79, .bool false), (82, pb 1 0), (83, .int .i64 z), (85, .bool false), (94, iN (ka + kk fb kb)), (96, .bool false)] [] [] 20 c4j (stOf 121 g [(0, vS f 0 n c), (3, pb 3 0), (5, vI true 1 ka), (6, vI fb 2 kb), (7, iN q), (9, pb 4 0), (11, .int .i64 z), (12, .bool true)] [o, A, B, hB own, LtA.vB y])).map (fun z => (look2 3 [0, 1, 2, 3] [0, 3, 5, 6] (z.1, z.2.1), z.2.2)) =
    some ((.normal, [o, A, B, hB own], [(0, vS f 0 n c), (3, pb 3 0), (5, vI true 1 ka), (6, vI fb 2 kb)], true), [gtO ka 0 true, (some (.bool (z != y.id)), .bool false), ixI 1 ka 0, ldO (h4C o A B own y).get 3 1 0 (.int .i64 z), (some (.bool (z != z)), .bool false), adO ka (kk fb kb), neO (ka + kk fb kb) q false], [], []) := by cases f <;> cases fb <;> kernel_rfl
theorem r4jf : (execE Try.prog c4 [(94, iN (0 + kk fb kb)), (96, .bool false)] [] [] 20 c4j (stOf 121 g [(0, vS f 0 n c), (3, pb 3 0), (5, vI false 1 ka), (6, vI fb 2 kb), (7, iN q), (9, pb 4 0), (11, .int .i64 z), (12, .bool false)] [o, A, B, hB own, LtA.vB y])).map (fun z => (look2 3 [0, 1, 2, 3] [0, 3, 5, 6] (z.1, z.2.1), z.2.2)) =
    some ((.normal, [o, A, B, hB own], [(0, vS f 0 n c), (3, pb 3 0), (5, vI false 1 ka), (6, vI fb 2 kb)], true), [adO 0 (kk fb kb), neO (0 + kk fb kb) q false], [], []) := by cases f <;> cases fb <;> kernel_rfl
theorem r4kt : (execE Try.prog c4 [(99, .bool true), (104, .bool true)] [] [] 20 c4k (stOf 121 g [(0, vS f 0 n c), (3, pb 3 0), (5, vI fa 1 ka), (6, vI fb 2 kb)] [o, A, B, hB own])).map (fun z => (look2 0 [] [4] (z.1, z.2.1), z.2.2)) =
    some ((.ret, [], [(4, .bool true)], true), [(some (.bool own.n), .bool true), eqO (kk fb kb) 0 true], [], []) := by cases f <;> cases fa <;> cases fb <;> kernel_rfl
theorem r4kf : (execE Try.prog c4 [(99, .bool false)] [] [] 20 c4k (stOf 121 g [(0, vS f 0 n c), (3, pb 3 0), (5, vI fa 1 ka), (6, vI fb 2 kb)] [o, A, B, hB own])).map (fun z => (look2 3 [0, 1, 2, 3] [0, 3, 5, 6] (z.1, z.2.1), z.2.2)) =
    some ((.normal, [o, A, B, hB own], [(0, vS f 0 n c), (3, pb 3 0), (5, vI fa 1 ka), (6, vI fb 2 kb)], true), [(some (.bool own.n), .bool false)], [], []) := by cases f <;> cases fa <;> cases fb <;> kernel_rfl
theorem r4l : (execZ Try.prog c4 [] [(111, w1, [B1, .dead]), (112, .bool true, [.dead]), (118, w2, [B2, .dead]), (119, .bool true, [.dead])] [] 20 c4l (stOf 121 g [(0, vS f 0 n c), (3, pb 3 0), (5, vI fa 1 ka), (6, vI fb 2 kb)] [o, A, B, hB own])).map (fun z => (look2 0 [] [4] (z.1, z.2.1), z.2.2)) =
    some ((.ret, [], [(4, .bool true)], true), [], [(c4 24 [vS f 0 n c, hcA own] (h4B o A B own), (w1, (heapOf [B1, .dead] (h4B o A B own)))), (c4 23 [vI fa 1 ka, w1] (heapOf [B1, .dead] (h4B o A B own)), (.bool true, (heapOf [.dead] (heapOf [B1, .dead] (h4B o A B own))))), (c4 25 [vS f 0 n c, hcA own] (heapOf [.dead] (heapOf [B1, .dead] (h4B o A B own))), (w2, (heapOf [B2, .dead] (heapOf [.dead] (heapOf [B1, .dead] (h4B o A B own)))))), (c4 23 [vI fb 2 kb, w2] (heapOf [B2, .dead] (heapOf [.dead] (heapOf [B1, .dead] (h4B o A B own)))), (.bool true, heapOf [.dead] (heapOf [B2, .dead] (heapOf [.dead] (heapOf [B1, .dead] (h4B o A B own))))))], []) := by cases f <;> cases fa <;> cases fb <;> kernel_rfl
end
end Go.Proofs.Ytiogdklmhpllfaa.LtL
namespace Go.Proofs.Ytiogdklmhpllfaa.LtL
open Go Go.Proofs Go.Proofs.Ytiogdklmhpllfaa.AI Go.RowKit Go.Proofs.Ytiogdklmhpllfaa.Sort Go.Proofs.Ytiogdklmhpllfaa.LtA

theorem neq23 (u v : ViewV) : fstV ((aBin Try.prog .neq 23 (hcA u) (hcA v)).map fun v => (v, none)) = some (.bool (!same23 u.n u.t u.o u.r u.d u.i v.n v.t v.o v.r v.d v.i)) := by
  have h : aBin Try.prog .neq 23 (hcA u) (hcA v) =
      (andE (u.n == v.n) (andE (u.t == v.t) (andE (u.o == v.o) (andE (u.r == v.r) (andE (u.d == v.d) (andE (u.i == v.i) (some true))))))).map fun b => .bool (!b) := by kernel_rfl
  rw [h]
  simp only [andE_some]
  rfl
def sameH (u v : ViewV) : Bool := same23 u.n u.t u.o u.r u.d u.i v.n v.t v.o v.r v.d v.i
theorem sameH_iff {u v : ViewV} : sameH u v = true ↔ u.n = v.n ∧ u.t = v.t ∧ u.o = v.o ∧ u.r = v.r ∧ u.d = v.d ∧ u.i = v.i := by
  unfold sameH same23
  simp [and_assoc]
theorem pD_unk {own x : ViewV} (h : known own.n own.t own.o own.r own.d own.i = false) : pD 1 own x = toldV x ∧ pD 2 own x = false := by
  unfold pD dirV dir toldV told
  rw [h]
  cases known x.n x.t x.o x.r x.d x.i <;> exact ⟨rfl, rfl⟩
theorem pD_kno {own x : ViewV} (h : Kn own) : pD 1 own x = ltV x own ∧ pD 2 own x = ltV own x := by
  have h' : known own.n own.t own.o own.r own.d own.i = true := h
  cases hk : toldV x with
  | false =>
    have hx : known x.n x.t x.o x.r x.d x.i = false := hk
    have nk : ¬ Kn x := fun e => by rw [toldV_kn.2 e] at hk; cases hk
    have e1 : ltV x own = false := by
      cases e : ltV x own with
      | false => rfl
      | true => exact absurd (lt_kn e).1 nk
    have e2 : ltV own x = false := by
      cases e : ltV own x with
      | false => rfl
      | true => exact absurd (lt_kn e).2 nk
    rw [e1, e2]
    unfold pD dirV dir
    rw [hx]; exact ⟨rfl, rfl⟩
  | true =>
    have hx : known x.n x.t x.o x.r x.d x.i = true := hk
    have ea := sw.asym x own (toldV_kn.1 hk) h
    unfold pD dirV dir
    rw [hx, h']
    show ((bif true then bif true then bif ltV x own then 1 else bif ltV own x then 2 else 0 else 1 else 0 : Int) == 1) = _ ∧ ((bif true then bif true then bif ltV x own then 1 else bif ltV own x then 2 else 0 else 1 else 0 : Int) == 2) = _
    cases e1 : ltV x own with
    | true => rw [ea e1]; exact ⟨rfl, rfl⟩
    | false => cases ltV own x <;> exact ⟨rfl, rfl⟩
/-- Told, and another height. -/
def cntP (own x : ViewV) : Bool := !x.n && !sameH x own
theorem lt_tri {u w : ViewV} (hu : Kn u) (hw : Kn w) : ltV u w = true ∨ ltV w u = true ∨ sameH u w = true := by
  have n1 := (kn_iff.1 hu).1
  have n2 := (kn_iff.1 hw).1
  have : Lex u w ∨ Lex w u ∨ (u.t = w.t ∧ u.o = w.o ∧ u.r = w.r ∧ u.d = w.d ∧ u.i = w.i) := by unfold Lex; omega
  rcases this with h | h | ⟨h1, h2, h3, h4, h5⟩
  · exact .inl ((ltV_lex hu hw).2 h)
  · exact .inr (.inl ((ltV_lex hw hu).2 h))
  · exact .inr (.inr (sameH_iff.2 ⟨by rw [n1, n2], h1, h2, h3, h4, h5⟩))
theorem same_lt {u w : ViewV} (h : sameH u w = true) : ltV u w = false ∧ ltV w u = false := by
  obtain ⟨h0, h1, h2, h3, h4, h5⟩ := sameH_iff.1 h
  have irr : ∀ {a b : ViewV}, a.n = b.n → a.t = b.t → a.o = b.o → a.r = b.r → a.d = b.d → a.i = b.i → ltV a b = false := fun {a b} q0 q1 q2 q3 q4 q5 => by
    cases e : ltV a b with
    | false => rfl
    | true =>
      have hl := (ltV_lex (lt_kn e).1 (lt_kn e).2).1 e
      unfold Lex at hl
      omega
  exact ⟨irr h0 h1 h2 h3 h4 h5, irr h0.symm h1.symm h2.symm h3.symm h4.symm h5.symm⟩
theorem cnt_ok {vs : List ViewV} {own : ViewV} (hr : rightB vs = true) (ho : okV own = true) : (idsD 1 own vs).length + (idsD 2 own vs).length = (vs.filter (cntP own)).length := by
  rw [idsD_len, idsD_len]
  refine count3 fun x hx => ?_
  obtain ⟨h1, h2⟩ := right_facts hr hx
  cases hon : own.n with
  | true =>
    have hu : known own.n own.t own.o own.r own.d own.i = false := by unfold known; rw [hon]; rfl
    obtain ⟨e1, e2⟩ := pD_unk (x := x) hu
    rw [e1, e2]
    have e3 : toldV x = !x.n := by
      cases hn : x.n with
      | true => unfold toldV told known; rw [hn]; rfl
      | false => exact toldV_kn.2 (kn_iff.2 ⟨hn, h2⟩)
    have e4 : cntP own x = !x.n := by
      unfold cntP
      cases hn : x.n with
      | true => rfl
      | false =>
        have : sameH x own = false := by
          cases e : sameH x own with
          | false => rfl
          | true => have := (sameH_iff.1 e).1; rw [hn, hon] at this; cases this
        rw [this]; rfl
    rw [e3, e4]; simp
  | false =>
    have hk : Kn own := kn_iff.2 ⟨hon, ho⟩
    obtain ⟨e1, e2⟩ := pD_kno (x := x) hk
    rw [e1, e2]
    unfold cntP
    cases hn : x.n with
    | true =>
      have nk : ¬ Kn x := fun h => by have := (kn_iff.1 h).1; rw [hn] at this; cases this
      have q1 : ltV x own = false := by
        cases e : ltV x own with
        | false => rfl
        | true => exact absurd (lt_kn e).1 nk
      have q2 : ltV own x = false := by
        cases e : ltV own x with
        | false => rfl
        | true => exact absurd (lt_kn e).2 nk
      rw [q1, q2]; exact ⟨rfl, rfl⟩
    | false =>
      have hkx : Kn x := kn_iff.2 ⟨hn, h2⟩
      cases hs : sameH x own with
      | true => obtain ⟨q1, q2⟩ := same_lt hs; rw [q1, q2]; exact ⟨rfl, rfl⟩
      | false =>
        rcases lt_tri hkx hk with h | h | h
        · rw [h, sw.asym _ _ hkx hk h]; exact ⟨rfl, rfl⟩
        · rw [h, sw.asym _ _ hk hkx h]; exact ⟨rfl, rfl⟩
        · rw [hs] at h; cases h
/-- The first one of a lower part is the lowest one. -/
theorem first_low {vs : List ViewV} {p : ViewV → Bool} (hr : rightB vs = true) (hK : ∀ x, p x = true → Kn x) (hd : ∀ u y, p u = true → Kn y → ltV y u = true → p y = true) {z : Int} (h : (idsP p vs)[0]? = some z) : (lowV vs).2 = true ∧ z = (lowV vs).1.id := by
  obtain ⟨u, h1, rfl, m1, m2⟩ := ids_get h
  have hku : Kn u := hK u m2
  obtain ⟨l1, l2⟩ := low_ok vs
  have hb : (lowV vs).2 = true := by
    cases e : (lowV vs).2 with
    | true => rfl
    | false => exact absurd hku (l2 e u m1)
  refine ⟨hb, ?_⟩
  obtain ⟨a1, a2, a3⟩ := l1 hb
  generalize (lowV vs).1 = y at *
  rcases Decidable.em (u.id = y.id) with he | he
  · exact he
  · have hii : u.i ≠ y.i := by rw [(right_facts hr m1).1, (right_facts hr a1).1]; exact he
    have h3 := a3 u m1 hku
    rcases lt_total hku a2 hii with q | q
    · rw [q] at h3; cases h3
    · have hyo : p y = true := hd u y m2 a2 q
      have hfk : ∀ z ∈ vs.filter p, Kn z := fun z hz => hK z (List.mem_filter.1 hz).2
      have hm : y ∈ ssort ltV (vs.filter p) := mem_ssort.2 (List.mem_filter.2 ⟨a1, hyo⟩)
      obtain ⟨j, hj⟩ := List.mem_iff_getElem?.1 hm
      have := srt_get (srt_ssort sw hfk) (fun z hz => hfk z (mem_ssort.1 hz)) (Nat.zero_le j) h1 hj
      rw [q] at this; cases this
theorem first_down {vs : List ViewV} {own : ViewV} (hr : rightB vs = true) {z : Int} (h : (idsD 1 own vs)[0]? = some z) : (lowV vs).2 = true ∧ z = (lowV vs).1.id := by
  refine first_low hr (p := pD 1 own) (fun x hx => pD_kn (.inl rfl) hx) (fun u y hu hy hl => ?_) h
  cases hk : known own.n own.t own.o own.r own.d own.i with
  | false => rw [(pD_unk hk).1]; exact toldV_kn.2 hy
  | true =>
    have hko : Kn own := hk
    rw [(pD_kno hko).1] at hu ⊢
    exact sw.trans hy (lt_kn hu).1 hko hl hu
theorem idsD_below {own : ViewV} (hk : Kn own) (vs : List ViewV) : idsD 1 own vs = idsP (pr24 own) vs := by
  have : pD 1 own = pr24 own := funext fun x => (pD_kno hk).1
  unfold idsD idsP; rw [this]
theorem idsD_above {own : ViewV} (hk : Kn own) (vs : List ViewV) : idsD 2 own vs = idsP (pr25 own) vs := by
  have : pD 2 own = pr25 own := funext fun x => (pD_kno hk).2
  unfold idsD idsP; rw [this]
theorem idsD_null {own : ViewV} (hn : own.n = true) (vs : List ViewV) : idsD 2 own vs = [] := by
  have hu : known own.n own.t own.o own.r own.d own.i = false := by unfold known; rw [hn]; rfl
  have e : vs.filter (pD 2 own) = [] := List.filter_eq_nil_iff.2 fun x _ => by rw [(pD_unk hu).2]; simp
  unfold idsD
  rw [e]; rfl
theorem tn_vS {f : Bool} {vs : List ViewV} {o : Blk} {c : Nat} {hp : Hp} (ho : inertB o = true) (hrow : vs = [] ∨ ∃ ty ro, o = .cells ty (vrow vs) ro) (hfl : f = false → vs = [] ∧ o = .dead) (hg : hp.get 0 = some o) : TN vs (vS f 0 vs.length c) hp := by
  cases f with
  | true => exact .inr ⟨0, c, o, rfl, hg, ho, hrow⟩
  | false => exact .inl ⟨rfl, (hfl rfl).1⟩
def EndsS (e : Exit) (st : St) : Prop := e = .ret ∧ ∃ g, st = stOf 121 g [(4, .bool true)] []
theorem kk_ids (ids : List Int) : kk (!ids.isEmpty) ids.length = ids.length := by cases ids <;> rfl
def cntS (own : ViewV) (q : Nat) (x : ViewV) : Nat := bif cntP own x then q + 1 else q
theorem cnt_fold {own : ViewV} : ∀ {vs : List ViewV} {q : Nat}, vs.foldl (cntS own) q = q + (vs.filter (cntP own)).length
  | [], q => rfl
  | v :: vs, q => by
    rw [List.foldl_cons, cnt_fold]
    unfold cntS
    cases h : cntP own v with
    | true => rw [List.filter_cons_of_pos h]; simp; omega
    | false => rw [List.filter_cons_of_neg (by rw [h]; simp)]; rfl
theorem law4_fr (f : Bool) (o : Blk) (own : ViewV) (vs : List ViewV) (c : Nat) (ho : inertB o = true) (hrow : vs = [] ∨ ∃ ty ro, o = .cells ty (vrow vs) ro) (hfl : f = false → vs = [] ∧ o = .dead) (W : Base) :
    FRwp Try.prog 121 W code4 ⟨tmsOf [vS f 0 vs.length c, hcA own] 0 .leaf, heapOf [o, .dead] hp0, []⟩ EndsS := by
  have hkk := kk_len hfl
  refine FRwp.seq (Q1 := fun e st => e = .normal ∧ ∃ g, st = stOf 121 g [(0, vS f 0 vs.length c), (3, pb 1 0)] [o, hB own]) (FRwp.pieceY c4_ok follows 1 _ _ _ _ (r4a f o vs.length c own) Met.nil MetH.nil MetE.nil s4a rfl rfl (fix11 ho _) fun g => ⟨rfl, g, rfl⟩) ?_ (fun x st hne hq => absurd hq.1 hne)
  rintro st ⟨-, g, rfl⟩
  have T0 : TN vs (vS f 0 vs.length c) (h4 o own) := tn_vS ho hrow hfl (by unfold h4; rw [heapOf0_get]; rfl)
  have hub : ∀ {r : Bool}, decide (80 < vs.length) = r → (some (Value.bool (decide (Int.ofNat (kk f vs.length) > 80)))) = some (.bool r) := fun {r} h => by
    rw [hkk, ← h, show decide (Int.ofNat vs.length > 80) = decide (80 < vs.length) from decide_eq_decide.2 (by simp only [Int.ofNat_eq_natCast]; omega)]
  let Q3 : Exit → St → Prop := fun e st => (e = .normal ∧ vs.length ≤ 80 ∧ rightB vs = true ∧ okV own = true ∧ ∃ g, st = stOf 121 g [(0, vS f 0 vs.length c), (3, pb 1 0)] [o, hB own]) ∨ EndsS e st
  refine FRwp.seq (Q1 := Q3) ?_ ?_ ?_
  · cases h15 : decide (80 < vs.length) with
    | true => exact FRwp.pieceY c4_ok follows 0 _ _ _ _ (r4b1 f o vs.length c own g) (Met.cons (hub h15) Met.nil) MetH.nil MetE.nil s4b rfl rfl (noFix _) fun g => .inr ⟨rfl, g, rfl⟩
    | false =>
      have hn : vs.length ≤ 80 := by have := of_decide_eq_false h15; omega
      have k18 : c4 18 [vS f 0 vs.length c] (h4 o own) = some (.int .i64 (bif rightB vs then 0 else 1), heapOf [.dead] (h4 o own)) := by
        rw [c4_18, G18_of T0 (by omega)]
        cases rightB vs <;> rfl
      have ez : ∀ {r : Bool}, (!rightB vs) = r → (some (Value.bool ((bif rightB vs then (0 : Int) else 1) != 0))) = some (.bool r) := fun {r} h => by
        rw [← h]; cases rightB vs <;> rfl
      have e42 : ∀ {r : Bool}, (!okV own) = r → (chO own r).1 = some (chO own r).2 := fun {r} h => by
        show some (Value.bool (chk own.n own.t own.o own.r own.d own.i != 0)) = some (.bool r)
        rw [← h]
        unfold chk okV
        cases okH own.n own.t own.o own.r own.d own.i <;> rfl
      cases hr : rightB vs with
      | false => exact FRwp.pieceY c4_ok follows 0 _ _ _ _ (r4b2 f o vs.length c _ own g) (Met.cons (hub h15) (Met.cons (ez (by rw [hr]; rfl)) Met.nil)) (MetH.cons k18 MetH.nil) MetE.nil s4b rfl rfl (noFix _) fun g => .inr ⟨rfl, g, rfl⟩
      | true =>
        cases hok : okV own with
        | false => exact FRwp.pieceY c4_ok follows 0 _ _ _ _ (r4b3 f o vs.length c _ own g) (Met.cons (hub h15) (Met.cons (ez (by rw [hr]; rfl)) (Met.cons (e42 (by rw [hok]; rfl)) Met.nil))) (MetH.cons k18 MetH.nil) MetE.nil s4b rfl rfl (noFix _) fun g => .inr ⟨rfl, g, rfl⟩
        | true => exact FRwp.pieceY c4_ok follows 1 _ _ _ _ (r4b4 f o vs.length c _ own g) (Met.cons (hub h15) (Met.cons (ez (by rw [hr]; rfl)) (Met.cons (e42 (by rw [hok]; rfl)) Met.nil))) (MetH.cons k18 MetH.nil) MetE.nil s4b rfl rfl (fix11 ho _) fun g => .inl ⟨rfl, hn, hr, hok, g, rfl⟩
  · rintro st (⟨-, hn, hr, hok, g, rfl⟩ | ⟨h, -⟩)
    · have hn1 : vs.length < 1000000 := by omega
      have hsum := cnt_ok hr hok
      have hfst := fun z => first_down (vs := vs) (own := own) (z := z) hr
      have hnul : own.n = true → idsD 2 own vs = [] := fun h => idsD_null h vs
      have hla : (idsD 1 own vs).length ≤ vs.length := by rw [idsD_len]; exact List.length_filter_le _ _
      have hlb : (idsD 2 own vs).length ≤ vs.length := by rw [idsD_len]; exact List.length_filter_le _ _
      have k19 : c4 19 [vS f 0 vs.length c, hcA own] (h4 o own) = some (vI (!(idsD 1 own vs).isEmpty) 3 (idsD 1 own vs).length, heapOf [ownI (idsD 1 own vs), .dead] (h4 o own)) := by
        rw [c4_19, G19_of own T0 hn1, ← vI_row]; rfl
      have k20 : ∀ A, c4 20 [vS f 0 vs.length c, hcA own] (h4A o A own) = some (vI (!(idsD 2 own vs).isEmpty) 4 (idsD 2 own vs).length, heapOf [ownI (idsD 2 own vs), .dead] (h4A o A own)) := fun A => by
        rw [c4_20, G20_of own (tn_vS ho hrow hfl (by unfold h4A; rw [heapOf0_get]; rfl)) hn1, ← vI_row]; rfl
      have k22 : ∀ A B y, c4 22 [vS f 0 vs.length c, hcA own] (h4C o A B own y) = some (nxtA own vs, heapOf [.dead] (h4C o A B own y)) := fun A B y => by
        rw [c4_22, G22_of own (tn_vS ho hrow hfl (by unfold h4C; rw [heapOf0_get]; rfl)) hn1]
      have hnx : nxtA own vs = match idsD 1 own vs with
        | [] => .tuple #[.int .i64 0, .bool false]
        | z :: _ => .tuple #[.int .i64 z, .bool true] := rfl
      have hb1 : Kn own → idsD 1 own vs = idsP (pr24 own) vs := fun h => idsD_below h vs
      have hb2 : Kn own → idsD 2 own vs = idsP (pr25 own) vs := fun h => idsD_above h vs
      generalize hia : idsD 1 own vs = ia at *
      generalize hib : idsD 2 own vs = ib at *
      have iA := ownI_inert ia
      have iB' := ownI_inert ib
      refine FRwp.seq (Q1 := fun e st => e = .normal ∧ ∃ g, st = stOf 121 g [(0, vS f 0 vs.length c), (3, pb 2 0), (5, vI (!ia.isEmpty) 1 ia.length)] [o, ownI ia, hB own]) (FRwp.pieceY c4_ok follows 2 _ _ _ _ (r4c f (!ia.isEmpty) o (ownI ia) vs.length c ia.length own g) Met.nil (MetH.cons k19 MetH.nil) MetE.nil s4c rfl rfl (fixOO ho iA _) fun g => ⟨rfl, g, rfl⟩) ?_ (fun x st hne hq => absurd hq.1 hne)
      rintro st ⟨-, g, rfl⟩
      refine FRwp.seq (Q1 := fun e st => e = .normal ∧ ∃ g, st = stOf 121 g [(0, vS f 0 vs.length c), (3, pb 3 0), (5, vI (!ia.isEmpty) 1 ia.length), (6, vI (!ib.isEmpty) 2 ib.length)] [o, ownI ia, ownI ib, hB own]) (FRwp.pieceY c4_ok follows 3 _ _ _ _ (r4d f (!ia.isEmpty) (!ib.isEmpty) o (ownI ia) (ownI ib) vs.length c ia.length ib.length own g) Met.nil (MetH.cons (k20 _) MetH.nil) MetE.nil s4d rfl rfl (fix33 ho iA iB' _) fun g => ⟨rfl, g, rfl⟩) ?_ (fun x st hne hq => absurd hq.1 hne)
      rintro st ⟨-, g, rfl⟩
      refine FRwp.seq (Q1 := fun e st => e = .normal ∧ ∃ g, st = stOf 121 g [(0, vS f 0 vs.length c), (3, pb 3 0), (5, vI (!ia.isEmpty) 1 ia.length), (6, vI (!ib.isEmpty) 2 ib.length), (7, iN 0)] [o, ownI ia, ownI ib, hB own]) (FRwp.pieceY c4_ok follows 3 _ _ _ _ (r4e f (!ia.isEmpty) (!ib.isEmpty) o (ownI ia) (ownI ib) vs.length c ia.length ib.length own g) Met.nil MetH.nil MetE.nil s4e rfl rfl (fix33 ho iA iB' _) fun g => ⟨rfl, g, rfl⟩) ?_ (fun x st hne hq => absurd hq.1 hne)
      rintro st ⟨-, g, rfl⟩
      refine FRwp.seq (Q1 := fun e st => e = .normal ∧ ∃ g, st = M4 f (!ia.isEmpty) (!ib.isEmpty) o (ownI ia) (ownI ib) vs.length c ia.length ib.length own (vs.filter (cntP own)).length g) ?_ ?_ (fun x st hne hq => absurd hq.1 hne)
      · refine FRwp.seq (Q1 := fun e st => e = .normal ∧ ∃ g, st = L4 f (!ia.isEmpty) (!ib.isEmpty) o (ownI ia) (ownI ib) vs.length c ia.length ib.length own 0 0 g) (FRwp.pieceY c4_ok follows 3 _ _ _ _ (r4f f (!ia.isEmpty) (!ib.isEmpty) o (ownI ia) (ownI ib) vs.length c ia.length ib.length own g) Met.nil MetH.nil MetE.nil s4f rfl rfl (fix33 ho iA iB' _) fun g => ⟨rfl, g, rfl⟩) ?_ (fun x st hne hq => absurd hq.1 hne)
        rintro st ⟨-, g, rfl⟩
        refine FRwp.mono (fold_loop' (cntS own) 0 (fun q i g => L4 f (!ia.isEmpty) (!ib.isEmpty) o (ownI ia) (ownI ib) vs.length c ia.length ib.length own q i g) (fun q st => ∃ g, st = M4 f (!ia.isEmpty) (!ib.isEmpty) o (ownI ia) (ownI ib) vs.length c ia.length ib.length own q g) (fun q g hf => ?_) (fun i x q g hx hlt hf => ?_) g) fun e st q => by rw [cnt_fold, Nat.zero_add] at q; exact q
        · exact FRwp.pieceY c4_ok follows 3 _ _ _ _ (r4gx f (!ia.isEmpty) (!ib.isEmpty) o (ownI ia) (ownI ib) vs.length c vs.length q ia.length ib.length own g) (Met.cons (ltO_ok (by rw [hkk]; simp)) Met.nil) MetH.nil MetE.nil s4g rfl rfl (fix33 ho iA iB' _) fun g' => ⟨rfl, g', rfl⟩
        · have hft : f = true := by cases f with
            | true => rfl
            | false => rw [(hfl rfl).1] at hlt; simp at hlt
          subst hft
          have hro : ∃ ty ro, o = .cells ty (vrow vs) ro := by
            rcases hrow with h | h
            · rw [h] at hlt; simp at hlt
            · exact h
          have hql : q ≤ i := by
            rw [← hf, cnt_fold, Nat.zero_add]
            have := List.length_filter_le (cntP own) (vs.take i)
            rw [List.length_take] at this
            omega
          have b0 : RowAt (h4B o (ownI ia) (ownI ib) own) 0 vs := rowAt0 hro
          have met : ∀ {l : List Obl}, Met l → Met (ltO i vs.length true :: LtA.ixO 0 vs.length c i :: ldO (h4B o (ownI ia) (ownI ib) own).get 4 0 (i * 7 + 1) (.bool x.n) :: l) := fun hl => Met.cons (ltO_ok (decide_eq_true hlt)) (Met.cons (LtA.vidx_ok hlt) (Met.cons (bload_ok b0 hx) hl))
          have met2 : ∀ {l : List Obl}, Met l → Met (LtA.ixO 0 vs.length c i :: ldO (h4B o (ownI ia) (ownI ib) own).get 23 0 (i * 7 + 1) (hcA x) :: l) := fun hl => Met.cons (LtA.vidx_ok hlt) (Met.cons (hload_ok b0 hx) hl)
          have hnx' : Met [nxt29 i] := Met.cons (wrap_up (by omega)) Met.nil
          cases hxn : x.n with
          | true =>
            have e : cntS own q x = q := by unfold cntS cntP; rw [hxn]; rfl
            have hr1 := r4g1 (!ia.isEmpty) (!ib.isEmpty) o (ownI ia) (ownI ib) vs.length c i q ia.length ib.length x own g
            refine FRwp.pieceY c4_ok follows 3 _ _ _ _ hr1 (met (Met.cons (bool_ok (by rw [hxn]; rfl)) hnx')) MetH.nil MetE.nil s4g rfl rfl (fix33 ho iA iB' _) fun g' => ⟨rfl, g', ?_⟩
            rw [e]; rfl
          | false =>
            cases hs : sameH x own with
            | true =>
              have e : cntS own q x = q := by unfold cntS cntP; rw [hxn, hs]; rfl
              refine FRwp.pieceY c4_ok follows 3 _ _ _ _ (r4g2 (!ia.isEmpty) (!ib.isEmpty) o (ownI ia) (ownI ib) vs.length c i q ia.length ib.length x own g) (met (Met.cons (bool_ok (by rw [hxn]; rfl)) (met2 (Met.cons (by rw [neq23]; unfold sameH at hs; rw [hs]; rfl) hnx')))) MetH.nil MetE.nil s4g rfl rfl (fix33 ho iA iB' _) fun g' => ⟨rfl, g', ?_⟩
              rw [e]; rfl
            | false =>
              have e : cntS own q x = q + 1 := by unfold cntS cntP; rw [hxn, hs]; rfl
              refine FRwp.pieceY c4_ok follows 3 _ _ _ _ (r4g3 (!ia.isEmpty) (!ib.isEmpty) o (ownI ia) (ownI ib) vs.length c i q ia.length ib.length x own g) (met (Met.cons (bool_ok (by rw [hxn]; rfl)) (met2 (Met.cons (by rw [neq23]; unfold sameH at hs; rw [hs]; rfl) (Met.cons (wrap_up (by omega)) hnx'))))) MetH.nil MetE.nil s4g rfl rfl (fix33 ho iA iB' _) fun g' => ⟨rfl, g', ?_⟩
              rw [e]; rfl
      rintro st ⟨-, g, rfl⟩
      have hql : (vs.filter (cntP own)).length ≤ vs.length := List.length_filter_le _ _
      generalize (vs.filter (cntP own)).length = q at *
      have T2 : TN vs (vS f 0 vs.length c) (h4B o (ownI ia) (ownI ib) own) := tn_vS ho hrow hfl (by unfold h4B; rw [heapOf0_get]; rfl)
      have k21 : c4 21 [vS f 0 vs.length c] (h4B o (ownI ia) (ownI ib) own) = some (.tuple #[.agg ⟨vc (lowV vs).1⟩, .bool (lowV vs).2], heapOf [.dead] (h4B o (ownI ia) (ownI ib) own)) := by rw [c4_21, G21_of T2 hn1]; rfl
      have k24 := G24_of (hp := h4B o (ownI ia) (ownI ib) own) own T2 hn1
      generalize (lowV vs).1 = y at *
      generalize (lowV vs).2 = lb at *
      refine FRwp.seq (Q1 := fun e st => e = .normal ∧ ∃ g, st = stOf 121 g [(0, vS f 0 vs.length c), (3, pb 3 0), (5, vI (!ia.isEmpty) 1 ia.length), (6, vI (!ib.isEmpty) 2 ib.length), (7, iN q), (9, pb 4 0)] [o, ownI ia, ownI ib, hB own, LtA.vB y]) (FRwp.pieceY c4_ok follows 3 _ _ _ _ (r4h f (!ia.isEmpty) (!ib.isEmpty) lb o (ownI ia) (ownI ib) vs.length c q ia.length ib.length y own g) Met.nil (MetH.cons k21 MetH.nil) MetE.nil s4h rfl rfl (fix33 ho iA iB' _) fun g => ⟨rfl, g, rfl⟩) ?_ (fun x st hne hq => absurd hq.1 hne)
      rintro st ⟨-, g, rfl⟩
      obtain ⟨z, hz⟩ : ∃ z, nxtA own vs = .tuple #[.int .i64 z, .bool (!ia.isEmpty)] ∧ (ia ≠ [] → ia[0]? = some z) := by
        rw [hnx]
        cases ia with
        | nil => exact ⟨0, rfl, fun h => absurd rfl h⟩
        | cons z ia => exact ⟨z, rfl, fun _ => rfl⟩
      have k22' := k22 (ownI ia) (ownI ib) y
      rw [hz.1] at k22'
      refine FRwp.seq (Q1 := fun e st => e = .normal ∧ ∃ g, st = stOf 121 g [(0, vS f 0 vs.length c), (3, pb 3 0), (5, vI (!ia.isEmpty) 1 ia.length), (6, vI (!ib.isEmpty) 2 ib.length), (7, iN q), (9, pb 4 0), (11, .int .i64 z), (12, .bool (!ia.isEmpty))] [o, ownI ia, ownI ib, hB own, LtA.vB y]) (FRwp.pieceY c4_ok follows 3 _ _ _ _ (r4i f (!ia.isEmpty) (!ib.isEmpty) o (ownI ia) (ownI ib) vs.length c q ia.length ib.length z y own g) Met.nil (MetH.cons k22' MetH.nil) MetE.nil s4i rfl rfl (fix33 ho iA iB' _) fun g => ⟨rfl, g, rfl⟩) ?_ (fun x st hne hq => absurd hq.1 hne)
      rintro st ⟨-, g, rfl⟩
      have hkb := kk_ids ib
      refine FRwp.seq (Q1 := fun e st => e = .normal ∧ ∃ g, st = stOf 121 g [(0, vS f 0 vs.length c), (3, pb 3 0), (5, vI (!ia.isEmpty) 1 ia.length), (6, vI (!ib.isEmpty) 2 ib.length)] [o, ownI ia, ownI ib, hB own]) ?_ ?_ (fun x st hne hq => absurd hq.1 hne)
      · cases ia with
        | nil =>
          have hs : 0 + ib.length = q := by simpa using hsum
          exact FRwp.pieceY c4_ok follows 3 _ _ _ _ (r4jf f (!ib.isEmpty) o (ownI []) (ownI ib) vs.length c q ([] : List Int).length ib.length z y own g) (Met.cons (adO_ok (by rw [hkb]; omega)) (Met.cons (neO_ok (by rw [hkb, hs]; simp)) Met.nil)) MetH.nil MetE.nil s4j rfl rfl (fix33 ho iA iB' _) fun g => ⟨rfl, g, rfl⟩
        | cons z0 ia =>
          have hz0 : z0 = z := by have := hz.2 (by simp); simpa using this
          subst hz0
          have hzy := (hfst z0 rfl).2
          have gA : (h4C o (ownI (z0 :: ia)) (ownI ib) own y).get 1 = some (iB (z0 :: ia)) := by unfold h4C; rw [heapOf0_get]; rfl
          exact FRwp.pieceY c4_ok follows 3 _ _ _ _ (r4jt f (!ib.isEmpty) o (ownI (z0 :: ia)) (ownI ib) vs.length c q (z0 :: ia).length ib.length z0 y own g)
            (Met.cons (gtO_ok (by simp)) (Met.cons (bool_ok (by rw [hzy]; simp)) (Met.cons (ixI_ok (by simp)) (Met.cons (ldI_ok gA rfl) (Met.cons (bool_ok (by simp)) (Met.cons (adO_ok (by rw [hkb]; omega)) (Met.cons (neO_ok (by rw [hkb, hsum]; simp)) Met.nil))))))) MetH.nil MetE.nil s4j rfl rfl (fix33 ho iA iB' _) fun g => ⟨rfl, g, rfl⟩
      rintro st ⟨-, g, rfl⟩
      let Q4 : Exit → St → Prop := fun e st => (e = .normal ∧ own.n = false ∧ ∃ g, st = stOf 121 g [(0, vS f 0 vs.length c), (3, pb 3 0), (5, vI (!ia.isEmpty) 1 ia.length), (6, vI (!ib.isEmpty) 2 ib.length)] [o, ownI ia, ownI ib, hB own]) ∨ EndsS e st
      refine FRwp.seq (Q1 := Q4) ?_ ?_ ?_
      · cases hon : own.n with
        | true =>
          have hib0 : ib = [] := hnul hon
          exact FRwp.pieceY c4_ok follows 0 _ _ _ _ (r4kt f (!ia.isEmpty) (!ib.isEmpty) o (ownI ia) (ownI ib) vs.length c ia.length ib.length own g) (Met.cons (bool_ok hon) (Met.cons (eqO_ok (by rw [hib0]; rfl)) Met.nil)) MetH.nil MetE.nil s4k rfl rfl (noFix _) fun g => .inr ⟨rfl, g, rfl⟩
        | false => exact FRwp.pieceY c4_ok follows 3 _ _ _ _ (r4kf f (!ia.isEmpty) (!ib.isEmpty) o (ownI ia) (ownI ib) vs.length c ia.length ib.length own g) (Met.cons (bool_ok hon) Met.nil) MetH.nil MetE.nil s4k rfl rfl (fix33 ho iA iB' _) fun g => .inl ⟨rfl, hon, g, rfl⟩
      · rintro st (⟨-, hon, g, rfl⟩ | ⟨h, -⟩)
        · have hko : Kn own := kn_iff.2 ⟨hon, hok⟩
          have kB : (h4B o (ownI ia) (ownI ib) own).ok := heapOf_ok _ _ hp0_ok
          have k1 : (heapOf [ownI ia, .dead] (h4B o (ownI ia) (ownI ib) own)).ok := heapOf_ok _ _ kB
          have k2 := heapOf_ok [.dead] _ k1
          have k3 := heapOf_ok [ownI ib, .dead] _ k2
          have gA : (h4B o (ownI ia) (ownI ib) own).get 1 = some (ownI ia) := by unfold h4B; rw [heapOf0_get]; rfl
          have gB : (h4B o (ownI ia) (ownI ib) own).get 2 = some (ownI ib) := by unfold h4B; rw [heapOf0_get]; rfl
          have a1 : c4 24 [vS f 0 vs.length c, hcA own] (h4B o (ownI ia) (ownI ib) own) = some (rowIv ia 5, heapOf [ownI ia, .dead] (h4B o (ownI ia) (ownI ib) own)) := by rw [c4_24, k24, ← hb1 hko]; rfl
          have a2 : c4 23 [vI (!ia.isEmpty) 1 ia.length, rowIv ia 5] (heapOf [ownI ia, .dead] (h4B o (ownI ia) (ownI ib) own)) = some (.bool true, heapOf [.dead] (heapOf [ownI ia, .dead] (h4B o (ownI ia) (ownI ib) own))) := by
            rw [c4_23, vI_row]
            exact gSI_of (by omega) (get_old kB gA) (by rw [heapOf_get]; rfl) (by omega)
          have a3 : c4 25 [vS f 0 vs.length c, hcA own] (heapOf [.dead] (heapOf [ownI ia, .dead] (h4B o (ownI ia) (ownI ib) own))) = some (rowIv ib 8, heapOf [ownI ib, .dead] (heapOf [.dead] (heapOf [ownI ia, .dead] (h4B o (ownI ia) (ownI ib) own)))) := by
            rw [c4_25, G25_of own ((T2.ext kB _).ext k1 _) hn1, ← hb2 hko]; rfl
          have a4 : c4 23 [vI (!ib.isEmpty) 2 ib.length, rowIv ib 8] (heapOf [ownI ib, .dead] (heapOf [.dead] (heapOf [ownI ia, .dead] (h4B o (ownI ia) (ownI ib) own)))) = some (.bool true, heapOf [.dead] (heapOf [ownI ib, .dead] (heapOf [.dead] (heapOf [ownI ia, .dead] (h4B o (ownI ia) (ownI ib) own))))) := by
            rw [c4_23, vI_row]
            exact gSI_of (by omega) (get_old k2 (get_old k1 (get_old kB gB))) (by rw [heapOf_get]; rfl) (by omega)
          exact FRwp.pieceZ c4_ok follows 0 _ _ _ _ (r4l f (!ia.isEmpty) (!ib.isEmpty) o (ownI ia) (ownI ib) (ownI ia) (ownI ib) vs.length c ia.length ib.length own (rowIv ia 5) (rowIv ib 8) g) Met.nil (MetH.cons a1 (MetH.cons a2 (MetH.cons a3 (MetH.cons a4 MetH.nil)))) MetE.nil s4l rfl rfl (noFix _) fun g => ⟨rfl, g, rfl⟩
        · cases h
      · rintro e st hne (⟨h, -⟩ | h)
        · exact absurd h hne
        · exact h
    · cases h
  · rintro e st hne (⟨h, -⟩ | h)
    · exact absurd h hne
    · exact h
end Go.Proofs.Ytiogdklmhpllfaa.LtL
namespace Go.Proofs.Ytiogdklmhpllfaa.LtL
open Go Go.Proofs Go.Proofs.Ytiogdklmhpllfaa.AI Go.RowKit Go.ChangeShapes Go.Proofs.Ytiogdklmhpllfaa.LtA

theorem valw_max {w : World} {r : Reach} {base : Nat} {a : Addr} {n c : Nat} (h : Value.okWide Try.prog w r base 29 (.slice (some a) n c)) : n ≤ 9223372036854775807 := by
  unfold Value.okWide at h
  rw [Try.underlying29] at h
  have h' : Cell.okWide Try.prog w r base 29 (.slice (some a) n c) := h
  unfold Cell.okWide at h'
  rw [Try.underlying29] at h'
  have h2 : Cell.ok Try.prog w r base 29 (.slice (some a) n c) := h'
  unfold Cell.ok at h2
  rw [Try.underlying29] at h2
  obtain ⟨h1, h3, -⟩ := h2
  have h4 : (c : Int) ≤ 9223372036854775807 := h3
  omega
/-- A row of whatever length, opened. -/
theorem row_argF {H : Type} {enc : TypeId × Value → H} {W : World} {base : Nat} {v : Value} {d : DataW H} {p : List MemPlace} (hval : Value.okWide Try.prog W .any base 29 v) (hT : ∃ fuel, DataW.trod enc Try.prog W 0 (fun _ => true) true fuel 29 v.cells.toList = some (d, p)) :
    ∃ (f : Bool) (o : Blk) (vs : List ViewV) (m : BM), inertB o = true ∧ Sim m (heapOf [o, .dead] hp0).get W ∧ (∀ b, rw? (heapOf [o, .dead] hp0).get b = false) ∧ VRel m (heapOf [o, .dead] hp0).get (vS f 0 vs.length 2) v ∧
      vs.length ≤ 9223372036854775807 ∧ (vs = [] ∨ ∃ ty ro, o = .cells ty (vrow vs) ro) ∧ (f = false → vs = [] ∧ o = .dead) := by
  rcases valw_slice Try.underlying29 hval with rfl | ⟨r, off, n, c, rfl, hn⟩
  · exact ⟨false, .dead, [], bm0, rfl, sim_bm0, ro2_dead, .flat rfl, by simp, .inl rfl, fun _ => ⟨rfl, rfl⟩⟩
  · have hmax := valw_max hval
    by_cases hd : n = 0
    · subst hd
      exact ⟨true, .dead, [], bm0, rfl, sim_bm0, ro2_dead, .slice (.of hn (by decide)) (.inl (by rw [heapOf0_get]; rfl)), by simp, .inl rfl, fun h => by cases h⟩
    · obtain ⟨fuel, hT⟩ := hT
      have hT' : DataW.trod enc Try.prog W 0 (fun _ => true) true fuel 29 [.slice (some ⟨r, off, none⟩) n c] = some (d, p) := by simpa [Value.cells] using hT
      obtain ⟨ps, arr, ty, fr, hl, hcell, hlen, hv⟩ := vrow_of hT' (by omega)
      have hin := vrow_inert ps
      refine ⟨true, .cells ty (vrow ps) true, ps, _, hin, sim_dead (row_sim (k := 7) (n := n) hcell hlen hin hv), ro2_cells, ?_, by omega, .inr ⟨ty, true, rfl⟩, fun h => by cases h⟩
      rw [hl]
      refine .slice (.of hn (by decide)) (.inr ⟨off, arr.size, rfl, .inl rfl, ?_⟩)
      constructor <;> intro h <;> simp at h
theorem endsS {e : Exit} {st : St} (h : EndsS e st) : (e = .normal ∨ e = .ret) ∧ st.df = [] ∧ retVal Try.prog Try.f4 st = some (.bool true) := by
  obtain ⟨rfl, g, rfl⟩ := h
  exact ⟨.inr rfl, rfl, q4 _ _ _⟩
theorem walk4 {H : Type} {enc : TypeId × Value → H} (W : World) (base : Nat) (args : Array Value) (ds : List (DataW H)) (p : List MemPlace) (hsz : args.size = 2) (hval : ∀ (j : Nat) t v, Try.f4.params[j]? = some t → args[j]? = some v → Value.okWide Try.prog W .any base t v)
    (hA : DataW.TrodAll enc Try.prog W 0 (fun _ => true) true [29, 23] args.toList ds p) : Calls Try.prog 4 args W fun e W' => e = .returned (.bool true) ∧ Below W.heap.size W W' := by
  obtain ⟨vl, vh, rfl⟩ : ∃ vl vh, args = #[vl, vh] := by
    obtain ⟨l⟩ := args
    match l, hsz with
    | [a, b], _ => exact ⟨a, b, rfl⟩
  obtain ⟨y, hy, rfl⟩ := open_height' 0 (hval 1 23 vh (by kernel_rfl) rfl)
  obtain ⟨v1, vs1, d1, ds1, p1, q1, e1, _, _, hT, _⟩ := trodAll_cons hA
  cases e1
  obtain ⟨f, o, vs, m, hi, sim, ro, rv, hmax, hrow, hfl⟩ := row_argF (hval 0 29 vl (by kernel_rfl) rfl) hT
  refine law_end Try.func4 body4 ntmps4 W (args0 := [vS f 0 vs.length 2, hcA y]) (by simp) (ok2_heap o .dead) sim ro (.cons rv (.cons (hcA_rel y) .nil)) fun W => ?_
  exact FRwp.mono (law4_fr f o y vs 2 hi hrow hfl W) fun e st h => endsS h
theorem params4 : ∀ t ∈ Try.f4.params.toList, Try.prog.readableRec t = true ∧ t < Try.prog.types.size := by
  have h : Try.f4.params.toList.all (fun t => Try.prog.readableRec t && decide (t < Try.prog.types.size)) = true := by kernel_rfl
  intro t ht
  have := List.all_eq_true.1 h t ht
  simpa using this
theorem lifted4 (os : Os) (started : os.Started) (H : Type) (enc : TypeId × Value → H) :
    ReturnsInHanded {} Try.checked os 4 .any (Rows.linksSplitSpec.pre6 enc Try.prog Try.f4 Rows.linksSplitRow.domain false) (Rows.linksSplitSpec.post enc Try.prog Try.f4 false true false false) :=
  law_lifted (C := Try.checked) (tb := 4) started own (by kernel_rfl) Try.func4 laid params4 rfl (by kernel_rfl) Try.underlying4
    (fun ds hl => by
      match ds, hl with
      | [_, _], _ => rfl)
    (ChangeSpec.witness6 (enc := enc) (C := Try.checked) false ⟨#[], #[nilS, hcA (zeroV 0)], []⟩ 8 (by kernel_rfl) (by kernel_rfl) (by kernel_rfl) (by kernel_rfl))
    (fun W base args ds p hsz hval hA => walk4 W base args ds p hsz hval hA)

/-- The statement. -/
theorem linksSplit_proved : Rows.LinksSplitSaid :=
  OpenClaim.holds_of_wide 4 Try.f4 rfl rfl rfl rfl rfl rfl rfl ⟨rfl, rfl, rfl, rfl, rfl⟩ rfl rfl rfl rfl rfl (by kernel_rfl) Try.func4 (by kernel_rfl)
    (of_decide_eq_true (by kernel_rfl)) (by unfold Func.isWrapper; first | (rw [if_pos (by decide +kernel)]; kernel_rfl) | (rw [if_neg (by decide +kernel)]; exact ⟨rfl, rfl⟩))
    (fun os started H enc _ => lifted4 os started H enc)
#print axioms linksSplit_proved
end Go.Proofs.Ytiogdklmhpllfaa.LtL
