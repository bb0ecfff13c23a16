/- LinksMore, of the given program: for every views, heights and node the law returns true, and the arguments read as they did. No condition. -/
import Derived.Test.YtiogdklmhpllfaaVgH
import Derived.Test.YtiogdklmhpllfaaRows
set_option linter.unusedVariables false
set_option linter.unusedSimpArgs false
set_option maxRecDepth 100000
namespace Go.Proofs.Ytiogdklmhpllfaa.LtL
open Go Go.Proofs Go.Proofs.Ytiogdklmhpllfaa.AI Go.RowKit Go.Proofs.Ytiogdklmhpllfaa.Sort Go.Proofs.Ytiogdklmhpllfaa.LtA

theorem info81 : ∃ i, Try.prog.info? 81 = some i ∧ i.size = 7 ∧ i.bytes = 56 := by
  have h : (Try.prog.info? 81).map (fun i => (i.size, i.bytes)) = some (7, 56) := by kernel_rfl
  obtain ⟨i, h1, h2⟩ := Option.map_eq_some_iff.1 h
  simp only [Prod.mk.injEq] at h2
  exact ⟨i, h1, h2.1, h2.2⟩
theorem zero81 : ∃ z, tzero Try.prog 81 = some z ∧ z.length = 7 := by
  have h : (tzero Try.prog 81).map (fun z => z.length) = some 7 := by kernel_rfl
  obtain ⟨z, h1, h2⟩ := Option.map_eq_some_iff.1 h
  exact ⟨z, h1, h2⟩
def ownB (vs : List ViewV) : Blk := match vs with
  | [] => .dead
  | _ :: _ => rowB vs
theorem ownB_inert (us : List ViewV) : inertB (ownB us) = true := by
  cases us with
  | nil => rfl
  | cons => exact row_block _
theorem ownB_ne {l : List ViewV} (h : l ≠ []) : ownB l = rowB l := by
  cases l with
  | nil => exact absurd rfl h
  | cons => rfl
theorem app_any {get : Nat → Option Blk} {sz b b2 k : Nat} {ws : List ViewV} {x : ViewV} {f : Bool} (hf : f = !ws.isEmpty) (hb : get b = some (ownB ws)) (hb2 : get b2 = some (vB x)) (hk : k = ws.length) (hl : k < 2000000) :
    aAppend Try.prog get sz [80, 80] [vS f b k 22, rowS b2 1 22] = some (newS sz (k + 1), effF f b (rowB (ws ++ [x]))) := by
  obtain ⟨i, hi, h7, h56⟩ := info81
  obtain ⟨z, hz, hzl⟩ := zero81
  have hb2' : get b2 = some (.cells 81 (vc x) false) := hb2
  have hsrc : aSrc Try.prog get 7 z (.slice 81) (rowS b2 1 22) = some (vc x, 1) := by
    unfold aSrc
    simp only [rowS, srcLen, srcCells, hb2']
    rw [if_neg (by omega), if_neg (by omega), getR_all (n := 1 * 7) rfl]
    rfl
  have e : vrow [x] = vc x := by unfold vrow; simp
  cases ws with
  | cons w ws =>
    subst hf hk
    have hbw : get b = some (.cells 81 (vrow (w :: ws)) false) := hb
    show aAppend Try.prog get sz [80, 80] [newS b (w :: ws).length, rowS b2 1 22] = some (newS sz ((w :: ws).length + 1), [.put b .dead, .push (rowB ((w :: ws) ++ [x]))])
    generalize w :: ws = us at *
    have hg : getR (vrow us) 0 (us.length * 7) = some (vrow us) := getR_all (vrow_len us)
    unfold aAppend
    simp only [underlying80, hi, hz, h7, h56, hzl]
    rw [if_neg (by decide)]
    simp only [hsrc]
    rw [if_neg (by simp [vc, isOne])]
    simp only [newS]
    rw [if_neg (by omega), if_neg (by omega)]
    simp only [hbw, hg]
    rw [if_neg (by omega), if_pos (by decide), if_neg (by rw [vrow_len]; omega)]
    unfold rowB
    rw [vrow_append, e]
  | nil =>
    subst hf hk
    show aAppend Try.prog get sz [80, 80] [nilS, rowS b2 1 22] = some (newS sz 1, [.push (rowB [x])])
    unfold aAppend
    simp only [underlying80, hi, hz, h7, h56, hzl]
    rw [if_neg (by decide)]
    simp only [hsrc]
    rw [if_neg (by simp [vc, isOne])]
    simp only [nilS]
    rw [if_neg (by omega), if_neg (by omega)]
    unfold rowB
    rw [e]; rfl
noncomputable def apV (h : Hp) (sz b k b2 : Nat) (f : Bool) (us : List ViewV) : OblE := (aAppend Try.prog h.get sz [80, 80] [vS f b k 22, rowS b2 1 22], (newS sz (k + 1), effF f b (rowB us)))
def dirV (own x : ViewV) : Int := dir own.n own.t own.o own.r own.d own.i x.n x.t x.o x.r x.d x.i
def pD (d : Int) (own x : ViewV) : Bool := dirV own x == d
theorem pD_kn {d : Int} {own x : ViewV} (hd : d = 1 ∨ d = 2) (h : pD d own x = true) : Kn x := by
  unfold pD dirV dir at h
  cases hk : known x.n x.t x.o x.r x.d x.i with
  | true => exact hk
  | false =>
    rw [hk] at h
    rcases hd with rfl | rfl <;> simp at h
noncomputable def diO (own x : ViewV) (d : Int) (b : Bool) : Obl := (some (.bool (dirV own x == d)), .bool b)
noncomputable def E56 : Ext := extG (extH Try.prog [(14, g14)]) [(76, G76)]
theorem E56_ok : ExtOk Try.prog E56 := extG_ok (extH_ok (.cons hk14 (.nil))) (.cons hkG76 (.nil))
noncomputable def c56 : CallF := aCall Try.prog E56 5
theorem c56_ok : CallOk Try.prog c56 := aCall_sound E56_ok follows 5
theorem c56_76 (args : List Value) (hp : Hp) : c56 76 args hp = G76 args hp := by
  show aCall Try.prog E56 5 76 _ _ = _
  rw [aCall]; rfl
noncomputable def c56n : CallF := aCall Try.prog (extH Try.prog []) 60
theorem c56n_ok : CallOk Try.prog c56n := aCall_sound (extH_ok .nil) follows 60
noncomputable def fb56 : Code := (Try.f56.body).getD .skip
noncomputable def p56 : Nat → Code
  | 0 => fb56
  | n + 1 => sR (p56 n)
noncomputable def c56a : Code := sL (p56 0)
noncomputable def c56b : Code := sL (p56 1)
noncomputable def c56c : Code := sL (sL (p56 2))
noncomputable def c56d : Code := unL (unB (sR (sL (p56 2))))
noncomputable def c56e : Code := sL (p56 3)
noncomputable def c56f : Code := sL (p56 4)
noncomputable def c56g : Code := sL (sL (p56 5))
noncomputable def c56h : Code := unL (unB (sR (sL (p56 5))))
noncomputable def c56i : Code := p56 6
noncomputable abbrev code56 : Code := .seq c56a (.seq c56b (.seq (.seq c56c (.block 0 (.loop c56d))) (.seq c56e (.seq c56f (.seq (.seq c56g (.block 2 (.loop c56h))) c56i)))))
theorem body56 : Try.f56.body = some code56 := by kernel_rfl
theorem ntmps56 : Try.f56.ntmps = 45 := by kernel_rfl
theorem s56a : codeSafe Try.prog 45 c56a = true := by kernel_rfl
theorem s56b : codeSafe Try.prog 45 c56b = true := by kernel_rfl
theorem s56c : codeSafe Try.prog 45 c56c = true := by kernel_rfl
theorem s56d : codeSafe Try.prog 45 c56d = true := by kernel_rfl
theorem s56e : codeSafe Try.prog 45 c56e = true := by kernel_rfl
theorem s56f : codeSafe Try.prog 45 c56f = true := by kernel_rfl
theorem s56g : codeSafe Try.prog 45 c56g = true := by kernel_rfl
theorem s56h : codeSafe Try.prog 45 c56h = true := by kernel_rfl
theorem s56i : codeSafe Try.prog 45 c56i = true := by kernel_rfl
noncomputable def rest56 : Code := .seq c56e (.seq c56f (.seq (.seq c56g (.block 2 (.loop c56h))) c56i))
theorem s56r : codeSafe Try.prog 45 rest56 = true := by kernel_rfl
theorem q56 (v : Value) (O : List Blk) (g : Nat → Value) : retVal Try.prog Try.f56 (stOf 45 g [(6, v)] O) = some v := by kernel_rfl
section
variable (f fu fi : Bool) (o U I : Blk) (n c u i k q j : Nat) (d : Int) (x own : ViewV) (us ws zs : List ViewV) (ids : List Int) (g : Nat → Value)
theorem r56a : (execE Try.prog c56 [] [] [] 20 c56a ⟨tmsOf [rowS 0 n c, hcA own, .int .i64 d] 0 .leaf, heapOf [o, .dead] hp0, []⟩).map (fun z => (look2 1 [0, 2] [0, 2, 4] (z.1, z.2.1), z.2.2)) =
    some ((.normal, [o, hB own], [(0, rowS 0 n c), (2, .int .i64 d), (4, pb 1 0)], true), [], [], []) := by kernel_rfl
theorem n56a : (execE Try.prog c56 [] [] [] 20 c56a ⟨tmsOf [nilS, hcA own, .int .i64 d] 0 .leaf, heapOf [.dead] hp0, []⟩).map (fun z => (look2 1 [0, 1] [0, 2, 4] (z.1, z.2.1), z.2.2)) =
    some ((.normal, [.dead, hB own], [(0, nilS), (2, .int .i64 d), (4, pb 1 0)], true), [], [], []) := by kernel_rfl
theorem r56b : (execE Try.prog c56 [] [] [] 20 c56b (stOf 45 g [(0, vS f 0 n c), (2, .int .i64 d), (4, pb 1 0)] [o, hB own])).map (fun z => (look2 2 [0, 2, 1] [0, 2, 4, 7] (z.1, z.2.1), z.2.2)) =
    some ((.normal, [o, .dead, hB own], [(0, vS f 0 n c), (2, .int .i64 d), (4, pb 2 0), (7, nilS)], true), [], [], []) := by cases f <;> kernel_rfl
theorem r56c : (execE Try.prog c56 [] [] [] 20 c56c (stOf 45 g [(0, vS f 0 n c), (2, .int .i64 d), (4, pb 2 0), (7, nilS)] [o, .dead, hB own])).map (fun z => (look2 2 [0, 1, 2] [2, 4, 7, 13, 14, 15] (z.1, z.2.1), z.2.2)) =
    some ((.normal, [o, .dead, hB own], [(2, .int .i64 d), (4, pb 2 0), (7, nilS), (13, vS f 0 n c), (14, iN (kk f n)), (15, iN 0)], true), [], [], []) := by cases f <;> kernel_rfl
abbrev L56 (U : Blk) (fu : Bool) (u i : Nat) (g : Nat → Value) : St := (stOf 45 g [(2, .int .i64 d), (4, pb 2 0), (7, vS fu 1 u 22), (13, vS f 0 n c), (14, iN (kk f n)), (15, iN i)] [o, U, hB own])
def h56 (o U : Blk) (own : ViewV) : Hp := heapOf ([o, U, hB own] ++ [.dead]) hp0
theorem r56x : (execE Try.prog c56 [(16, .bool false)] [] [] 20 c56d (L56 f o n c d own U fu u i g)).map (fun z => (look2 1 [1] [7] (z.1, z.2.1), z.2.2)) =
    some ((.exit 0, [U], [(7, vS fu 0 u 22)], true), [ltO i (kk f n) false], [], []) := by cases f <;> cases fu <;> kernel_rfl
theorem r56f : (execE Try.prog c56 [(16, .bool true), (17, pb 0 (i * 7)), (18, .agg ⟨vc x⟩), (29, iN (i + 1)), (24, .bool false)] [] [] 20 c56d (L56 true o n c d own U fu u i g)).map (fun z => (look2 2 [0, 1, 2] [2, 4, 7, 13, 14, 15] (z.1, z.2.1), z.2.2)) =
    some ((.normal, [o, U, hB own], [(2, .int .i64 d), (4, pb 2 0), (7, vS fu 1 u 22), (13, rowS 0 n c), (14, iN n), (15, iN (i + 1))], true), [ltO i n true, LtA.ixO 0 n c i, ldO (h56 o U own).get 34 0 (i * 7) (.agg ⟨vc x⟩), diO own x d false, nxt29 i], [], []) := by cases fu <;> kernel_rfl
theorem r56t : (execE Try.prog c56 [(16, .bool true), (17, pb 0 (i * 7)), (18, .agg ⟨vc x⟩), (29, iN (i + 1)), (24, .bool true)] [] [(28, newS 6 (u + 1), effF fu 1 (rowB zs))] 20 c56d (L56 true o n c d own U fu u i g)).map (fun z => (look2 2 [0, 6, 2] [2, 4, 7, 13, 14, 15] (z.1, z.2.1), z.2.2)) =
    some ((.normal, [o, rowB zs, hB own], [(2, .int .i64 d), (4, pb 2 0), (7, newS 1 (u + 1)), (13, rowS 0 n c), (14, iN n), (15, iN (i + 1))], true), [ltO i n true, LtA.ixO 0 n c i, ldO (h56 o U own).get 34 0 (i * 7) (.agg ⟨vc x⟩), diO own x d true, nxt29 i], [], [apV (((h56 o U own).push (LtA.vB x)).push (vB x)) 6 1 u 5 fu zs]) := by cases fu <;> kernel_rfl
theorem n56r : (execQ Try.prog c56n [] 60 rest56 (stOf 45 g [(7, nilS)] [.dead])).map (fun z => (look2 0 [] [6] (z.1, z.2.1), z.2.2)) = some ((.ret, [], [(6, nilS)], true), []) := by kernel_rfl
theorem r56e : (execE Try.prog c56 [] [] [(31, vU, [.put 0 (rowB us)])] 20 c56e (stOf 45 g [(7, newS 0 k)] [rowB ws])).map (fun z => (look2 1 [0] [7] (z.1, z.2.1), z.2.2)) =
    some ((.normal, [rowB us], [(7, newS 0 k)], true), [], [(c56 76 [newS 0 k, Fc] (hW ws), (vU, (hW ws).put 0 (rowB us)))], []) := by kernel_rfl
theorem r56g0 : (execE Try.prog c56 [] [] [] 20 c56f (stOf 45 g [(7, newS 0 k)] [rowB ws])).map (fun z => (look2 2 [0, 1] [7, 10] (z.1, z.2.1), z.2.2)) =
    some ((.normal, [rowB ws, .dead], [(7, newS 0 k), (10, nilS)], true), [], [], []) := by kernel_rfl
theorem r56g : (execE Try.prog c56 [] [] [] 20 c56g (stOf 45 g [(7, newS 0 k), (10, nilS)] [rowB ws, .dead])).map (fun z => (look2 2 [0, 1] [10, 32, 33, 34] (z.1, z.2.1), z.2.2)) =
    some ((.normal, [rowB ws, .dead], [(10, nilS), (32, newS 0 k), (33, iN k), (34, iN 0)], true), [], [], []) := by kernel_rfl
abbrev K56 (ws : List ViewV) (I : Blk) (fi : Bool) (n q j : Nat) (g : Nat → Value) : St := (stOf 45 g [(10, vI fi 1 q), (32, newS 0 n), (33, iN n), (34, iN j)] [rowB ws, I])
theorem r56hx : (execE Try.prog c56 [(35, .bool false)] [] [] 20 c56h (K56 ws I fi n q j g)).map (fun z => (look2 1 [1] [10] (z.1, z.2.1), z.2.2)) =
    some ((.exit 2, [I], [(10, vI fi 0 q)], true), [ltO j n false], [], []) := by cases fi <;> kernel_rfl
def hK56 (ws : List ViewV) (I : Blk) : Hp := heapOf ([rowB ws, I] ++ [.dead]) hp0
theorem r56h : (execE Try.prog c56 [(35, .bool true), (36, pb 0 (j * 7)), (37, .agg ⟨vc x⟩), (43, iN (j + 1))] [] [(42, newI 5 (q + 1), effF fi 1 (iB ids))] 20 c56h (K56 ws I fi n q j g)).map (fun z => (look2 2 [0, 5] [10, 32, 33, 34] (z.1, z.2.1), z.2.2)) =
    some ((.normal, [rowB ws, iB ids], [(10, newI 1 (q + 1)), (32, newS 0 n), (33, iN n), (34, iN (j + 1))], true), [ltO j n true, ixO 0 n 22 j, ldO (hK56 ws I).get 81 0 (j * 7) (.agg ⟨vc x⟩), nxt29 j], [], [apI (((hK56 ws I).push (vB x)).push (.cells 3 [icell x.id] false)) 5 1 q 4 fi ids]) := by cases fi <;> kernel_rfl
theorem r56i : (execE Try.prog c56 [] [] [] 20 c56i (stOf 45 g [(10, vI fi 0 q)] [I])).map (fun z => (look2 1 [0] [6] (z.1, z.2.1), z.2.2)) =
    some ((.ret, [I], [(6, vI fi 0 q)], true), [], [], []) := by cases fi <;> kernel_rfl
end
end Go.Proofs.Ytiogdklmhpllfaa.LtL
namespace Go.Proofs.Ytiogdklmhpllfaa.LtL
open Go Go.Proofs Go.Proofs.Ytiogdklmhpllfaa.AI Go.RowKit Go.Proofs.Ytiogdklmhpllfaa.Sort Go.Proofs.Ytiogdklmhpllfaa.LtA

/-- The ids of a direction, the lowest one first. -/
def idsD (d : Int) (own : ViewV) (vs : List ViewV) : List Int := (ssort ltV (vs.filter (pD d own))).map fun x => x.id
theorem idsD_len (d : Int) (own : ViewV) (vs : List ViewV) : (idsD d own vs).length = (vs.filter (pD d own)).length := by unfold idsD; rw [List.length_map, len_ssort]
def ofR (vs : List ViewV) : Ans := fun rest => match rest with
  | [v, .int .i64 d] => if d = 1 ∨ d = 2 then (unH v).map fun own => (rowIv (idsD d own vs) 0, rowIO (idsD d own vs)) else none
  | _ => none
theorem vI_row (ids : List Int) (b : Nat) : vI (!ids.isEmpty) b ids.length = rowIv ids b := by cases ids <;> rfl
theorem fin_row {fn : Func} {N t : Nat} (q : ∀ (v : Value) (O : List Blk) (g : Nat → Value), retVal Try.prog fn (stOf N g [(t, v)] O) = some v) (ids : List Int) (g : Nat → Value) : FinR fn (rowIv ids 0) (rowIO ids) .ret (stOf N g [(t, rowIv ids 0)] [ownI ids]) := by
  refine ⟨.inr rfl, rfl, q _ _ g, fun B hB => ?_⟩
  cases ids with
  | nil => cases hB
  | cons i ids => cases hB; show (heapOf _ hp0).get 0 = _; rw [heapOf0_get]; rfl
theorem run56 (vs : List ViewV) (hn : vs.length < 1000000) : ∀ rest v0 O, ofR vs rest = some (v0, O) → RowRun Try.f56 code56 45 vs rest v0 O := fun rest v0 O h => by
  unfold ofR at h
  split at h
  case h_2 => cases h
  rename_i v d
  split at h
  case isFalse => cases h
  rename_i hd
  obtain ⟨own, hown, h2⟩ := Option.map_eq_some_iff.1 h
  obtain rfl := unH_some hown
  cases h2
  refine ⟨rowI_out _, rowI_ok _, (by intro r hr; have e : r = hcA own ∨ r = .int .i64 d := (by simpa using hr); rcases e with e | e <;> rw [e]; exact stay_h _; exact stay_int _ _), by simp, fun f o c W ho hrow hfl => ?_⟩
  have hkk := kk_len hfl
  have fx2 : ∀ us : List ViewV, ∀ r : List Blk, ∀ i, i < 2 → ∀ o', (o :: ownB us :: r)[i]? = some o' → Fixed 0 o' := fun us => fixOO ho (ownB_inert us)
  refine FRwp.seq (Q1 := fun e st => e = .normal ∧ ∃ g, st = stOf 45 g [(0, vS f 0 vs.length c), (2, .int .i64 d), (4, pb 1 0)] [o, hB own]) ?_ ?_ (fun x st hne hq => absurd hq.1 hne)
  · cases f with
    | true => exact FRwp.pieceY c56_ok follows 1 _ _ _ _ (r56a o vs.length c d own) Met.nil MetH.nil MetE.nil s56a rfl rfl (fix11 ho _) fun g => ⟨rfl, g, rfl⟩
    | false =>
      obtain ⟨rfl, rfl⟩ := hfl rfl
      exact FRwp.pieceY c56_ok follows 1 _ _ _ _ (n56a d own) Met.nil MetH.nil MetE.nil s56a rfl rfl (fix11 rfl _) fun g => ⟨rfl, g, rfl⟩
  rintro st ⟨-, g, rfl⟩
  refine FRwp.seq (Q1 := fun e st => e = .normal ∧ ∃ g, st = stOf 45 g [(0, vS f 0 vs.length c), (2, .int .i64 d), (4, pb 2 0), (7, nilS)] [o, .dead, hB own]) (FRwp.pieceY c56_ok follows 2 _ _ _ _ (r56b f o vs.length c d own g) Met.nil MetH.nil MetE.nil s56b rfl rfl (fx2 [] _) fun g => ⟨rfl, g, rfl⟩) ?_ (fun x st hne hq => absurd hq.1 hne)
  rintro st ⟨-, g, rfl⟩
  refine FRwp.seq (Q1 := fun e st => e = .normal ∧ ∃ g, st = stOf 45 g [(7, vS (!(vs.filter (pD d own)).isEmpty) 0 (vs.filter (pD d own)).length 22)] [ownB (vs.filter (pD d own))]) ?_ ?_ (fun x st hne hq => absurd hq.1 hne)
  · refine FRwp.seq (Q1 := fun e st => e = .normal ∧ ∃ g, st = L56 f o vs.length c d own .dead false 0 0 g) (FRwp.pieceY c56_ok follows 2 _ _ _ _ (r56c f o vs.length c d own g) Met.nil MetH.nil MetE.nil s56c rfl rfl (fx2 [] _) fun g => ⟨rfl, g, rfl⟩) ?_ (fun x st hne hq => absurd hq.1 hne)
    rintro st ⟨-, g, rfl⟩
    refine FRwp.mono (fold_loop' (filS (pD d own)) [] (fun us i g => L56 f o vs.length c d own (ownB us) (!us.isEmpty) us.length i g) (fun us st => ∃ g, st = stOf 45 g [(7, vS (!us.isEmpty) 0 us.length 22)] [ownB us]) (fun us g hf => ?_) (fun i x us g hx hlt hf => ?_) g) fun e st q => by rw [fil_fold] at q; exact q
    · exact FRwp.pieceY c56_ok follows 1 _ _ _ _ (r56x f (!us.isEmpty) o (ownB us) vs.length c us.length vs.length d own g) (Met.cons (ltO_ok (by rw [hkk]; simp)) Met.nil) MetH.nil MetE.nil s56d rfl rfl (fix11 (ownB_inert us) []) fun g' => ⟨rfl, g', rfl⟩
    · have hft : f = true := by cases f with
        | true => rfl
        | false => rw [(hfl rfl).1] at hlt; simp at hlt
      subst hft
      have hr : ∃ ty ro, o = .cells ty (vrow vs) ro := by
        rcases hrow with h | h
        · rw [h] at hlt; simp at hlt
        · exact h
      have hul : us.length ≤ i := by
        rw [← hf, fil_fold]
        have := List.length_filter_le (pD d own) (vs.take i)
        rw [List.length_take] at this
        simp; omega
      have b0 : RowAt (h56 o (ownB us) own) 0 vs := rowAt0 hr
      have met : ∀ {l : List Obl}, Met l → Met (ltO i vs.length true :: LtA.ixO 0 vs.length c i :: ldO (h56 o (ownB us) own).get 34 0 (i * 7) (.agg ⟨vc x⟩) :: l) := fun hl => Met.cons (ltO_ok (decide_eq_true hlt)) (Met.cons (LtA.vidx_ok hlt) (Met.cons (LtA.vload_ok b0 hx) hl))
      have hnx : Met [nxt29 i] := Met.cons (wrap_up (by omega)) Met.nil
      have dok : ∀ {b : Bool}, pD d own x = b → (diO own x d b).1 = some (diO own x d b).2 := fun h => by show some (Value.bool (dirV own x == d)) = _; unfold pD at h; rw [h]; rfl
      cases h24 : pD d own x with
      | false =>
        refine FRwp.pieceY c56_ok follows 2 _ _ _ _ (r56f (!us.isEmpty) o (ownB us) vs.length c us.length i d x own g) (met (Met.cons (dok h24) hnx)) MetH.nil MetE.nil s56d rfl rfl (fx2 us _) fun g' => ⟨rfl, g', ?_⟩
        unfold filS; rw [h24]; rfl
      | true =>
        have g1 : (((h56 o (ownB us) own).push (LtA.vB x)).push (vB x)).get 1 = some (ownB us) := by rw [Hp.get_push, if_neg (by show (1 : Nat) ≠ 5; omega), Hp.get_push, if_neg (by show (1 : Nat) ≠ 4; omega)]; unfold h56; rw [heapOf0_get]; rfl
        have g5 : (((h56 o (ownB us) own).push (LtA.vB x)).push (vB x)).get 5 = some (vB x) := by rw [Hp.get_push, if_pos (by show (5 : Nat) = 5; rfl)]
        refine FRwp.pieceY c56_ok follows 2 _ _ _ _ (r56t (!us.isEmpty) o (ownB us) vs.length c us.length i d x own (us ++ [x]) g) (met (Met.cons (dok h24) hnx)) MetH.nil (MetE.cons (app_any rfl g1 g5 rfl (by omega)) MetE.nil) s56d rfl rfl
          (by rw [← ownB_ne (ne_app us x)]; exact fx2 _ _) fun g' => ⟨rfl, g', ?_⟩
        unfold filS; rw [h24, cond_true, isE_app, ownB_ne (ne_app us x)]
        have e1 : (us ++ [x]).length = us.length + 1 := by simp
        rw [e1]; rfl
  rintro st ⟨-, g, rfl⟩
  have hfl' : (vs.filter (pD d own)).length < 1000000 := by have := List.length_filter_le (pD d own) vs; omega
  have hfk : ∀ z ∈ vs.filter (pD d own), Kn z := fun z hz => pD_kn hd (List.mem_filter.1 hz).2
  unfold idsD
  generalize vs.filter (pD d own) = us at *
  cases us with
  | nil => exact FRwp.piece c56n_ok follows 0 _ _ _ _ (n56r g) Met.nil s56r rfl rfl rfl (noFix _) fun g => ⟨.inr rfl, rfl, q56 _ _ g, (fun B hB => by cases hB)⟩
  | cons w ws =>
    have hun : w :: ws ≠ [] := by simp
    generalize w :: ws = us at *
    rw [ownB_ne hun, isE_false hun]
    have hsl : (ssort ltV us).length = us.length := len_ssort
    have hcall : c56 76 [newS 0 us.length, Fc] (hW us) = some (vU, (hW us).put 0 (rowB (ssort ltV us))) := by rw [c56_76]; exact G76_of rfl (by omega) hfk (hW_get us)
    refine FRwp.seq (Q1 := fun e st => e = .normal ∧ ∃ g, st = stOf 45 g [(7, newS 0 us.length)] [rowB (ssort ltV us)]) (FRwp.pieceY c56_ok follows 1 _ _ _ _ (r56e us.length (ssort ltV us) us g) Met.nil (MetH.cons hcall MetH.nil) MetE.nil s56e rfl rfl (fix1 _ []) fun g => ⟨rfl, g, rfl⟩) ?_ (fun x st hne hq => absurd hq.1 hne)
    rintro st ⟨-, g, rfl⟩
    generalize ssort ltV us = ss at *
    rw [← hsl]
    have fx : ∀ r : List Blk, ∀ i, i < 2 → ∀ o', (rowB ss :: .dead :: r)[i]? = some o' → Fixed 0 o' := fixOO (row_block ss) rfl
    refine FRwp.seq (Q1 := fun e st => e = .normal ∧ ∃ g, st = stOf 45 g [(7, newS 0 ss.length), (10, nilS)] [rowB ss, .dead]) (FRwp.pieceY c56_ok follows 2 _ _ _ _ (r56g0 ss.length ss g) Met.nil MetH.nil MetE.nil s56f rfl rfl (fx []) fun g => ⟨rfl, g, rfl⟩) ?_ (fun x st hne hq => absurd hq.1 hne)
    rintro st ⟨-, g, rfl⟩
    refine FRwp.seq (Q1 := fun e st => e = .normal ∧ ∃ g, st = stOf 45 g [(10, rowIv (ss.map fun x => x.id) 0)] [ownI (ss.map fun x => x.id)]) ?_ ?_ (fun x st hne hq => absurd hq.1 hne)
    · refine FRwp.seq (Q1 := fun e st => e = .normal ∧ ∃ g, st = K56 ss .dead false ss.length 0 0 g) (FRwp.pieceY c56_ok follows 2 _ _ _ _ (r56g ss.length ss g) Met.nil MetH.nil MetE.nil s56g rfl rfl (fx []) fun g => ⟨rfl, g, rfl⟩) ?_ (fun x st hne hq => absurd hq.1 hne)
      rintro st ⟨-, g, rfl⟩
      refine FRwp.mono (fold_loop' (fun ids (x : ViewV) => ids ++ [x.id]) [] (fun ids i g => K56 ss (ownI ids) (!ids.isEmpty) ss.length ids.length i g) (fun ids st => ∃ g, st = stOf 45 g [(10, rowIv ids 0)] [ownI ids]) (fun ids g hf => ?_) (fun i x ids g hx hlt hf => ?_) g) fun e st q => by rw [map_fold] at q; exact q
      · rw [← vI_row]
        exact FRwp.pieceY c56_ok follows 1 _ _ _ _ (r56hx (!ids.isEmpty) (ownI ids) ss.length ids.length ss.length ss g) (Met.cons (ltO_ok (by simp)) Met.nil) MetH.nil MetE.nil s56h rfl rfl (fix11 (ownI_inert ids) []) fun g' => ⟨rfl, g', rfl⟩
      · have hil : ids.length ≤ i := by rw [← hf, map_fold]; simp; omega
        have b0 : RowAt (hK56 ss (ownI ids)) 0 ss := .of (ty := 81) (ro := false) (by unfold hK56; rw [heapOf0_get]; rfl)
        have g1 : (((hK56 ss (ownI ids)).push (vB x)).push (.cells 3 [icell x.id] false)).get 1 = some (ownI ids) := by rw [Hp.get_push, if_neg (by show (1 : Nat) ≠ 4; omega), Hp.get_push, if_neg (by show (1 : Nat) ≠ 3; omega)]; unfold hK56; rw [heapOf0_get]; rfl
        have g4 : (((hK56 ss (ownI ids)).push (vB x)).push (.cells 3 [icell x.id] false)).get 4 = some (.cells 3 [icell x.id] false) := by rw [Hp.get_push, if_pos (by show (4 : Nat) = 4; rfl)]
        refine FRwp.pieceY c56_ok follows 2 _ _ _ _ (r56h (!ids.isEmpty) (ownI ids) ss.length ids.length i x ss (ids ++ [x.id]) g) (Met.cons (ltO_ok (decide_eq_true hlt)) (Met.cons (vidx_ok hlt) (Met.cons (vload_ok b0 hx) (Met.cons (wrap_up (by omega)) Met.nil)))) MetH.nil (MetE.cons (app_anyI rfl g1 g4 rfl (by omega)) MetE.nil) s56h rfl rfl
          (by rw [← ownI_ne (ne_app ids x.id)]; exact fixOO (row_block ss) (ownI_inert _) []) fun g' => ⟨rfl, g', ?_⟩
        rw [isE_app, ownI_ne (ne_app ids x.id)]
        have e1 : (ids ++ [x.id]).length = ids.length + 1 := by simp
        rw [e1]; rfl
    · rintro st ⟨-, g, rfl⟩
      generalize ss.map (fun x => x.id) = ids at *
      have hr := r56i (!ids.isEmpty) (ownI ids) ids.length g
      rw [vI_row] at hr
      exact FRwp.pieceY c56_ok follows 1 _ _ _ _ hr Met.nil MetH.nil MetE.nil s56i rfl rfl (fix11 (ownI_inert ids) []) fun g => fin_row q56 ids g
noncomputable def G56 : HeapFn := padF (toldR ofR)
theorem hkG56 : CallGoal Try.prog 56 G56 := pad_goal (toldR_goal Try.func56 body56 (by kernel_rfl) ntmps56 fun vs hn => run56 vs hn)
theorem G56_of {vs : List ViewV} {s : Value} {hp : Hp} {d : Int} (own : ViewV) (hd : d = 1 ∨ d = 2) (h : TN vs s hp) (hn : vs.length < 1000000) : G56 [s, hcA own, .int .i64 d] hp = some (rowIv (idsD d own vs) hp.sz, heapOf [ownI (idsD d own vs), .dead] hp) := toldR_ids h hn (by show (if d = 1 ∨ d = 2 then _ else _) = _; rw [if_pos hd]; rfl)
/-! ### F19 -/
noncomputable def E19 : Ext := extG (extH Try.prog []) [(56, G56)]
theorem E19_ok : ExtOk Try.prog E19 := extG_ok (extH_ok (.nil)) (.cons hkG56 (.nil))
noncomputable def c19 : CallF := aCall Try.prog E19 5
theorem c19_ok : CallOk Try.prog c19 := aCall_sound E19_ok follows 5
theorem c19_56 (args : List Value) (hp : Hp) : c19 56 args hp = G56 args hp := by
  show aCall Try.prog E19 5 56 _ _ = _
  rw [aCall]; rfl
noncomputable def fb19 : Code := (Try.f19.body).getD .skip
theorem body19 : Try.f19.body = some fb19 := by kernel_rfl
theorem ntmps19 : Try.f19.ntmps = 8 := by kernel_rfl
theorem s19 : codeSafe Try.prog 8 fb19 = true := by kernel_rfl
theorem q19 (v : Value) (O : List Blk) (g : Nat → Value) : retVal Try.prog Try.f19 (stOf 8 g [(4, v)] O) = some v := by kernel_rfl
section
variable (fi : Bool) (o I : Blk) (own : ViewV) (n c k : Nat)
theorem r19t : (execE Try.prog c19 [] [(7, vI fi 3 k, [I, .dead])] [] 20 fb19 ⟨tmsOf [rowS 0 n c, hcA own] 0 .leaf, heapOf [o, .dead] hp0, []⟩).map (fun z => (look2 1 [3] [4] (z.1, z.2.1), z.2.2)) =
    some ((.ret, [I], [(4, vI fi 0 k)], true), [], [(c19 56 [rowS 0 n c, hcA own, .int .i64 1] (heapOf [o, .dead, hB own] hp0), (vI fi 3 k, heapOf [I, .dead] (heapOf [o, .dead, hB own] hp0)))], []) := by cases fi <;> kernel_rfl
theorem r19n : (execE Try.prog c19 [] [(7, vI fi 2 k, [I, .dead])] [] 20 fb19 ⟨tmsOf [nilS, hcA own] 0 .leaf, heapOf [.dead] hp0, []⟩).map (fun z => (look2 1 [2] [4] (z.1, z.2.1), z.2.2)) =
    some ((.ret, [I], [(4, vI fi 0 k)], true), [], [(c19 56 [nilS, hcA own, .int .i64 1] (heapOf [.dead, hB own] hp0), (vI fi 2 k, heapOf [I, .dead] (heapOf [.dead, hB own] hp0)))], []) := by cases fi <;> kernel_rfl
end
def wayR19 (vs : List ViewV) : Ans := fun rest => match rest with
  | [v] => (unH v).map fun own => (rowIv (idsD 1 own vs) 0, rowIO (idsD 1 own vs))
  | _ => none
theorem run19 (vs : List ViewV) (hn : vs.length < 1000000) : ∀ rest v0 O, wayR19 vs rest = some (v0, O) → RowRun Try.f19 fb19 8 vs rest v0 O := fun rest v0 O h => by
  unfold wayR19 at h
  split at h
  case h_2 => cases h
  rename_i v
  obtain ⟨own, hown, h2⟩ := Option.map_eq_some_iff.1 h
  obtain rfl := unH_some hown
  cases h2
  refine ⟨rowI_out _, rowI_ok _, (by intro r hr; have e : r = hcA own := (by simpa using hr); rw [e]; exact stay_h _), by simp, fun f o c W ho hrow hfl => ?_⟩
  cases f with
  | true =>
    have h := (c19_56 [rowS 0 vs.length c, hcA own, .int .i64 1] (heapOf [o, .dead, hB own] hp0)).trans (G56_of (d := 1) own (by simp) (.inr ⟨0, c, o, rfl, by rw [heapOf0_get]; rfl, ho, hrow⟩) hn)
    generalize idsD 1 own vs = ids at *
    have hr := r19t (!ids.isEmpty) o (ownI ids) own vs.length c ids.length
    rw [vI_row, vI_row] at hr
    exact FRwp.pieceY c19_ok follows 1 _ _ _ _ hr Met.nil (MetH.cons h MetH.nil) MetE.nil s19 rfl rfl (fix11 (ownI_inert ids) []) fun g => fin_row q19 ids g
  | false =>
    obtain ⟨rfl, rfl⟩ := hfl rfl
    have h := (c19_56 [nilS, hcA own, .int .i64 1] (heapOf [.dead, hB own] hp0)).trans (G56_of (vs := []) (d := 1) own (by simp) (.inl ⟨rfl, rfl⟩) (by simp))
    generalize idsD 1 own [] = ids at *
    have hr := r19n (!ids.isEmpty) (ownI ids) own ids.length
    rw [vI_row, vI_row] at hr
    exact FRwp.pieceY c19_ok follows 1 _ _ _ _ hr Met.nil (MetH.cons h MetH.nil) MetE.nil s19 rfl rfl (fix11 (ownI_inert ids) []) fun g => fin_row q19 ids g
noncomputable def G19 : HeapFn := padF (toldR wayR19)
theorem hkG19 : CallGoal Try.prog 19 G19 := pad_goal (toldR_goal Try.func19 body19 (by kernel_rfl) ntmps19 fun vs hn => run19 vs hn)
theorem G19_of {vs : List ViewV} {s : Value} {hp : Hp} (own : ViewV) (h : TN vs s hp) (hn : vs.length < 1000000) : G19 [s, hcA own] hp = some (rowIv (idsD 1 own vs) hp.sz, heapOf [ownI (idsD 1 own vs), .dead] hp) := toldR_ids h hn rfl
/-! ### F20 -/
section
variable (fi : Bool) (o I : Blk) (own : ViewV) (n c k : Nat)
end
def wayR20 (vs : List ViewV) : Ans := fun rest => match rest with
  | [v] => (unH v).map fun own => (rowIv (idsD 2 own vs) 0, rowIO (idsD 2 own vs))
  | _ => none
noncomputable def G20 : HeapFn := padF (toldR wayR20)
/-! ### Next -/
noncomputable def E22 : Ext := extG (extH Try.prog []) [(19, G19)]
theorem E22_ok : ExtOk Try.prog E22 := extG_ok (extH_ok (.nil)) (.cons hkG19 (.nil))
noncomputable def c22 : CallF := aCall Try.prog E22 5
theorem c22_ok : CallOk Try.prog c22 := aCall_sound E22_ok follows 5
theorem c22_19 (args : List Value) (hp : Hp) : c22 19 args hp = G19 args hp := by
  show aCall Try.prog E22 5 19 _ _ = _
  rw [aCall]; rfl
noncomputable def fb22 : Code := (Try.f22.body).getD .skip
theorem body22 : Try.f22.body = some fb22 := by kernel_rfl
theorem ntmps22 : Try.f22.ntmps = 16 := by kernel_rfl
theorem s22 : codeSafe Try.prog 16 fb22 = true := by kernel_rfl
theorem q22 (v u : Value) (O : List Blk) (g : Nat → Value) : retVal Try.prog Try.f22 (stOf 16 g [(4, v), (5, u)] O) = some (.tuple #[v, u]) := by kernel_rfl
section
variable (o I : Blk) (own : ViewV) (n c k : Nat) (z : Int)
theorem r22t : (execE Try.prog c22 [(12, .bool true), (14, pb 3 0), (15, .int .i64 z)] [(9, newI 3 k, [I, .dead])] [] 20 fb22 ⟨tmsOf [rowS 0 n c, hcA own] 0 .leaf, heapOf [o, .dead] hp0, []⟩).map (fun z => (look2 0 [] [4, 5] (z.1, z.2.1), z.2.2)) =
    some ((.ret, [], [(4, .int .i64 z), (5, .bool true)], true), [gtO k 0 true, ixI 3 k 0, ldO (heapOf [I, .dead] (heapOf [o, .dead, hB own] hp0)).get 3 3 0 (.int .i64 z)], [(c22 19 [rowS 0 n c, hcA own] (heapOf [o, .dead, hB own] hp0), (newI 3 k, heapOf [I, .dead] (heapOf [o, .dead, hB own] hp0)))], []) := by kernel_rfl
theorem r22te : (execE Try.prog c22 [] [(9, nilS, [I, .dead])] [] 20 fb22 ⟨tmsOf [rowS 0 n c, hcA own] 0 .leaf, heapOf [o, .dead] hp0, []⟩).map (fun z => (look2 0 [] [4, 5] (z.1, z.2.1), z.2.2)) =
    some ((.ret, [], [(4, .int .i64 0), (5, .bool false)], true), [], [(c22 19 [rowS 0 n c, hcA own] (heapOf [o, .dead, hB own] hp0), (nilS, heapOf [I, .dead] (heapOf [o, .dead, hB own] hp0)))], []) := by kernel_rfl
theorem r22n : (execE Try.prog c22 [(12, .bool true), (14, pb 2 0), (15, .int .i64 z)] [(9, newI 2 k, [I, .dead])] [] 20 fb22 ⟨tmsOf [nilS, hcA own] 0 .leaf, heapOf [.dead] hp0, []⟩).map (fun z => (look2 0 [] [4, 5] (z.1, z.2.1), z.2.2)) =
    some ((.ret, [], [(4, .int .i64 z), (5, .bool true)], true), [gtO k 0 true, ixI 2 k 0, ldO (heapOf [I, .dead] (heapOf [.dead, hB own] hp0)).get 3 2 0 (.int .i64 z)], [(c22 19 [nilS, hcA own] (heapOf [.dead, hB own] hp0), (newI 2 k, heapOf [I, .dead] (heapOf [.dead, hB own] hp0)))], []) := by kernel_rfl
theorem r22ne : (execE Try.prog c22 [] [(9, nilS, [I, .dead])] [] 20 fb22 ⟨tmsOf [nilS, hcA own] 0 .leaf, heapOf [.dead] hp0, []⟩).map (fun z => (look2 0 [] [4, 5] (z.1, z.2.1), z.2.2)) =
    some ((.ret, [], [(4, .int .i64 0), (5, .bool false)], true), [], [(c22 19 [nilS, hcA own] (heapOf [.dead, hB own] hp0), (nilS, heapOf [I, .dead] (heapOf [.dead, hB own] hp0)))], []) := by kernel_rfl
end
/-- The next one. -/
def nxtA (own : ViewV) (vs : List ViewV) : Value := match idsD 1 own vs with
  | [] => .tuple #[.int .i64 0, .bool false]
  | z :: _ => .tuple #[.int .i64 z, .bool true]
def nxtR (vs : List ViewV) : Ans := fun rest => match rest with
  | [v] => (unH v).map fun own => (nxtA own vs, [])
  | _ => none
theorem nxtA_ok (own : ViewV) (vs : List ViewV) : ok3 (nxtA own vs) = true := by unfold nxtA; split <;> rfl
theorem run22 (vs : List ViewV) (hn : vs.length < 1000000) : ∀ rest v0 O, nxtR vs rest = some (v0, O) → RowRun Try.f22 fb22 16 vs rest v0 O := fun rest v0 O h => by
  unfold nxtR at h
  split at h
  case h_2 => cases h
  rename_i v
  obtain ⟨own, hown, h2⟩ := Option.map_eq_some_iff.1 h
  obtain rfl := unH_some hown
  cases h2
  refine ⟨.inl rfl, nxtA_ok _ _, (by intro r hr; have e : r = hcA own := (by simpa using hr); rw [e]; exact stay_h _), by simp, fun f o c W ho hrow hfl => ?_⟩
  have hg : ∀ {k : Nat}, (gtO (k + 1) 0 true).1 = some (gtO (k + 1) 0 true).2 := fun {k} => gtO_ok (by simp)
  cases f with
  | true =>
    have h := (c22_19 [rowS 0 vs.length c, hcA own] (heapOf [o, .dead, hB own] hp0)).trans (G19_of own (.inr ⟨0, c, o, rfl, by rw [heapOf0_get]; rfl, ho, hrow⟩) hn)
    unfold nxtA
    generalize idsD 1 own vs = ids at *
    cases ids with
    | nil => exact FRwp.pieceY c22_ok follows 0 _ _ _ _ (r22te o .dead own vs.length c) Met.nil (MetH.cons h MetH.nil) MetE.nil s22 rfl rfl (noFix _) fun g => ⟨.inr rfl, rfl, q22 _ _ _ g, (fun B hB => by cases hB)⟩
    | cons z ids => exact FRwp.pieceY c22_ok follows 0 _ _ _ _ (r22t o (iB (z :: ids)) own vs.length c (ids.length + 1) z) (Met.cons hg (Met.cons (ixI_ok (by omega)) (Met.cons (ldA_ok (isI (z :: ids)) (by rw [heapOf_get]; rfl) rfl) Met.nil))) (MetH.cons h MetH.nil) MetE.nil s22 rfl rfl (noFix _) fun g => ⟨.inr rfl, rfl, q22 _ _ _ g, (fun B hB => by cases hB)⟩
  | false =>
    obtain ⟨rfl, rfl⟩ := hfl rfl
    have h := (c22_19 [nilS, hcA own] (heapOf [.dead, hB own] hp0)).trans (G19_of (vs := []) own (.inl ⟨rfl, rfl⟩) (by simp))
    unfold nxtA
    generalize idsD 1 own [] = ids at *
    cases ids with
    | nil => exact FRwp.pieceY c22_ok follows 0 _ _ _ _ (r22ne .dead own) Met.nil (MetH.cons h MetH.nil) MetE.nil s22 rfl rfl (noFix _) fun g => ⟨.inr rfl, rfl, q22 _ _ _ g, (fun B hB => by cases hB)⟩
    | cons z ids => exact FRwp.pieceY c22_ok follows 0 _ _ _ _ (r22n (iB (z :: ids)) own (ids.length + 1) z) (Met.cons hg (Met.cons (ixI_ok (by omega)) (Met.cons (ldA_ok (isI (z :: ids)) (by rw [heapOf_get]; rfl) rfl) Met.nil))) (MetH.cons h MetH.nil) MetE.nil s22 rfl rfl (noFix _) fun g => ⟨.inr rfl, rfl, q22 _ _ _ g, (fun B hB => by cases hB)⟩
noncomputable def G22 : HeapFn := toldR nxtR
theorem hkG22 : CallGoal Try.prog 22 G22 := toldR_goal Try.func22 body22 (by kernel_rfl) ntmps22 fun vs hn => run22 vs hn
theorem G22_of {vs : List ViewV} {s : Value} {hp : Hp} (own : ViewV) (h : TN vs s hp) (hn : vs.length < 1000000) : G22 [s, hcA own] hp = some (nxtA own vs, heapOf [.dead] hp) := toldR_none h hn rfl (by unfold nxtA; split <;> simp [sh3, sh2, sh1])
end Go.Proofs.Ytiogdklmhpllfaa.LtL
namespace Go.Proofs.Ytiogdklmhpllfaa.LtL
open Go Go.Proofs Go.Proofs.Ytiogdklmhpllfaa.AI Go.RowKit Go.Proofs.Ytiogdklmhpllfaa.Sort Go.Proofs.Ytiogdklmhpllfaa.LtA

def g16 : List Value → Option Value
  | [] => some (.bool true)
  | _ => none
theorem awake_run : (aCall Try.prog (extOf Try.prog) 4000 16 [] hp0).map (fun r => r.1) = some (.bool true) := by kernel_rfl
theorem hk16 : HookGoal Try.prog 16 g16 := hook_of (ext := extOf Try.prog) (extOf_ok _) follows Try.func16 (by kernel_rfl) fun args v h => by
  unfold g16 at h
  split at h
  · cases h
    obtain ⟨⟨u, hp⟩, h1, h2⟩ := Option.map_eq_some_iff.1 awake_run
    simp only at h2
    subst h2
    exact ⟨rfl, rfl, _, hp, h1⟩
  · cases h
noncomputable def E4S : Ext := extG (extH Try.prog [(16, g16), (15, g15)]) [(18, G18), (19, G19), (20, G20), (21, G21), (22, G22), (24, G24), (25, G25), (23, gSI)]
noncomputable def c4 : CallF := aCall Try.prog E4S 5
noncomputable def fb4 : Code := (Try.f4.body).getD .skip
noncomputable def p4 : Nat → Code
  | 0 => fb4
  | n + 1 => sR (p4 n)
theorem q4 (v : Value) (O : List Blk) (g : Nat → Value) : retVal Try.prog Try.f4 (stOf 121 g [(4, v)] O) = some v := by kernel_rfl
section
variable (f fa fb b lb : Bool) (o A B B1 B2 : Blk) (n c i q ka kb : Nat) (z : Int) (x y own : ViewV) (w1 w2 : Value) (g : Nat → Value)
def h4 (o : Blk) (own : ViewV) : Hp := heapOf ([o, hB own] ++ [.dead]) hp0
end
end Go.Proofs.Ytiogdklmhpllfaa.LtL
namespace Go.Proofs.Ytiogdklmhpllfaa.LtL
open Go Go.Proofs Go.Proofs.Ytiogdklmhpllfaa.AI Go.RowKit Go.Proofs.Ytiogdklmhpllfaa.Sort Go.Proofs.Ytiogdklmhpllfaa.LtA

theorem pD_unk {own x : ViewV} (h : known own.n own.t own.o own.r own.d own.i = false) : pD 1 own x = toldV x ∧ pD 2 own x = false := by
  unfold pD dirV dir toldV told
  rw [h]
  cases known x.n x.t x.o x.r x.d x.i <;> exact ⟨rfl, rfl⟩
theorem pD_kno {own x : ViewV} (h : Kn own) : pD 1 own x = ltV x own ∧ pD 2 own x = ltV own x := by
  have h' : known own.n own.t own.o own.r own.d own.i = true := h
  cases hk : toldV x with
  | false =>
    have hx : known x.n x.t x.o x.r x.d x.i = false := hk
    have nk : ¬ Kn x := fun e => by rw [toldV_kn.2 e] at hk; cases hk
    have e1 : ltV x own = false := by
      cases e : ltV x own with
      | false => rfl
      | true => exact absurd (lt_kn e).1 nk
    have e2 : ltV own x = false := by
      cases e : ltV own x with
      | false => rfl
      | true => exact absurd (lt_kn e).2 nk
    rw [e1, e2]
    unfold pD dirV dir
    rw [hx]; exact ⟨rfl, rfl⟩
  | true =>
    have hx : known x.n x.t x.o x.r x.d x.i = true := hk
    have ea := sw.asym x own (toldV_kn.1 hk) h
    unfold pD dirV dir
    rw [hx, h']
    show ((bif true then bif true then bif ltV x own then 1 else bif ltV own x then 2 else 0 else 1 else 0 : Int) == 1) = _ ∧ ((bif true then bif true then bif ltV x own then 1 else bif ltV own x then 2 else 0 else 1 else 0 : Int) == 2) = _
    cases e1 : ltV x own with
    | true => rw [ea e1]; exact ⟨rfl, rfl⟩
    | false => cases ltV own x <;> exact ⟨rfl, rfl⟩
/-- The first one of a lower part is the lowest one. -/
theorem first_low {vs : List ViewV} {p : ViewV → Bool} (hr : rightB vs = true) (hK : ∀ x, p x = true → Kn x) (hd : ∀ u y, p u = true → Kn y → ltV y u = true → p y = true) {z : Int} (h : (idsP p vs)[0]? = some z) : (lowV vs).2 = true ∧ z = (lowV vs).1.id := by
  obtain ⟨u, h1, rfl, m1, m2⟩ := ids_get h
  have hku : Kn u := hK u m2
  obtain ⟨l1, l2⟩ := low_ok vs
  have hb : (lowV vs).2 = true := by
    cases e : (lowV vs).2 with
    | true => rfl
    | false => exact absurd hku (l2 e u m1)
  refine ⟨hb, ?_⟩
  obtain ⟨a1, a2, a3⟩ := l1 hb
  generalize (lowV vs).1 = y at *
  rcases Decidable.em (u.id = y.id) with he | he
  · exact he
  · have hii : u.i ≠ y.i := by rw [(right_facts hr m1).1, (right_facts hr a1).1]; exact he
    have h3 := a3 u m1 hku
    rcases lt_total hku a2 hii with q | q
    · rw [q] at h3; cases h3
    · have hyo : p y = true := hd u y m2 a2 q
      have hfk : ∀ z ∈ vs.filter p, Kn z := fun z hz => hK z (List.mem_filter.1 hz).2
      have hm : y ∈ ssort ltV (vs.filter p) := mem_ssort.2 (List.mem_filter.2 ⟨a1, hyo⟩)
      obtain ⟨j, hj⟩ := List.mem_iff_getElem?.1 hm
      have := srt_get (srt_ssort sw hfk) (fun z hz => hfk z (mem_ssort.1 hz)) (Nat.zero_le j) h1 hj
      rw [q] at this; cases this
theorem first_down {vs : List ViewV} {own : ViewV} (hr : rightB vs = true) {z : Int} (h : (idsD 1 own vs)[0]? = some z) : (lowV vs).2 = true ∧ z = (lowV vs).1.id := by
  refine first_low hr (p := pD 1 own) (fun x hx => pD_kn (.inl rfl) hx) (fun u y hu hy hl => ?_) h
  cases hk : known own.n own.t own.o own.r own.d own.i with
  | false => rw [(pD_unk hk).1]; exact toldV_kn.2 hy
  | true =>
    have hko : Kn own := hk
    rw [(pD_kno hko).1] at hu ⊢
    exact sw.trans hy (lt_kn hu).1 hko hl hu
theorem tn_vS {f : Bool} {vs : List ViewV} {o : Blk} {c : Nat} {hp : Hp} (ho : inertB o = true) (hrow : vs = [] ∨ ∃ ty ro, o = .cells ty (vrow vs) ro) (hfl : f = false → vs = [] ∧ o = .dead) (hg : hp.get 0 = some o) : TN vs (vS f 0 vs.length c) hp := by
  cases f with
  | true => exact .inr ⟨0, c, o, rfl, hg, ho, hrow⟩
  | false => exact .inl ⟨rfl, (hfl rfl).1⟩
def EndsS (e : Exit) (st : St) : Prop := e = .ret ∧ ∃ g, st = stOf 121 g [(4, .bool true)] []
theorem kk_ids (ids : List Int) : kk (!ids.isEmpty) ids.length = ids.length := by cases ids <;> rfl
end Go.Proofs.Ytiogdklmhpllfaa.LtL
namespace Go.Proofs.Ytiogdklmhpllfaa.LtL
open Go Go.Proofs Go.Proofs.Ytiogdklmhpllfaa.AI Go.RowKit Go.ChangeShapes Go.Proofs.Ytiogdklmhpllfaa.LtA

theorem valw_max {w : World} {r : Reach} {base : Nat} {a : Addr} {n c : Nat} (h : Value.okWide Try.prog w r base 29 (.slice (some a) n c)) : n ≤ 9223372036854775807 := by
  unfold Value.okWide at h
  rw [Try.underlying29] at h
  have h' : Cell.okWide Try.prog w r base 29 (.slice (some a) n c) := h
  unfold Cell.okWide at h'
  rw [Try.underlying29] at h'
  have h2 : Cell.ok Try.prog w r base 29 (.slice (some a) n c) := h'
  unfold Cell.ok at h2
  rw [Try.underlying29] at h2
  obtain ⟨h1, h3, -⟩ := h2
  have h4 : (c : Int) ≤ 9223372036854775807 := h3
  omega
/-- A row of whatever length, opened. -/
theorem row_argF {H : Type} {enc : TypeId × Value → H} {W : World} {base : Nat} {v : Value} {d : DataW H} {p : List MemPlace} (hval : Value.okWide Try.prog W .any base 29 v) (hT : ∃ fuel, DataW.trod enc Try.prog W 0 (fun _ => true) true fuel 29 v.cells.toList = some (d, p)) :
    ∃ (f : Bool) (o : Blk) (vs : List ViewV) (m : BM), inertB o = true ∧ Sim m (heapOf [o, .dead] hp0).get W ∧ (∀ b, rw? (heapOf [o, .dead] hp0).get b = false) ∧ VRel m (heapOf [o, .dead] hp0).get (vS f 0 vs.length 2) v ∧
      vs.length ≤ 9223372036854775807 ∧ (vs = [] ∨ ∃ ty ro, o = .cells ty (vrow vs) ro) ∧ (f = false → vs = [] ∧ o = .dead) := by
  rcases valw_slice Try.underlying29 hval with rfl | ⟨r, off, n, c, rfl, hn⟩
  · exact ⟨false, .dead, [], bm0, rfl, sim_bm0, ro2_dead, .flat rfl, by simp, .inl rfl, fun _ => ⟨rfl, rfl⟩⟩
  · have hmax := valw_max hval
    by_cases hd : n = 0
    · subst hd
      exact ⟨true, .dead, [], bm0, rfl, sim_bm0, ro2_dead, .slice (.of hn (by decide)) (.inl (by rw [heapOf0_get]; rfl)), by simp, .inl rfl, fun h => by cases h⟩
    · obtain ⟨fuel, hT⟩ := hT
      have hT' : DataW.trod enc Try.prog W 0 (fun _ => true) true fuel 29 [.slice (some ⟨r, off, none⟩) n c] = some (d, p) := by simpa [Value.cells] using hT
      obtain ⟨ps, arr, ty, fr, hl, hcell, hlen, hv⟩ := vrow_of hT' (by omega)
      have hin := vrow_inert ps
      refine ⟨true, .cells ty (vrow ps) true, ps, _, hin, sim_dead (row_sim (k := 7) (n := n) hcell hlen hin hv), ro2_cells, ?_, by omega, .inr ⟨ty, true, rfl⟩, fun h => by cases h⟩
      rw [hl]
      refine .slice (.of hn (by decide)) (.inr ⟨off, arr.size, rfl, .inl rfl, ?_⟩)
      constructor <;> intro h <;> simp at h
end Go.Proofs.Ytiogdklmhpllfaa.LtL
namespace Go.Proofs.Ytiogdklmhpllfaa.LtL
open Go Go.Proofs Go.Proofs.Ytiogdklmhpllfaa.AI Go.RowKit Go.Proofs.Ytiogdklmhpllfaa.Sort Go.Proofs.Ytiogdklmhpllfaa.LtA

theorem wrap_dnM {i : Nat} (h : i + 1 ≤ 9223372036854775807) : (some (Value.int .i64 (wrapF .i64 (Int.ofNat (i + 1) - 1)))) = some (iN i) := by
  have e : Int.ofNat (i + 1) - 1 = Int.ofNat i := by simp only [Int.ofNat_eq_natCast]; omega
  rw [e, wrap64 (by have := Int.natCast_nonneg i; simp only [Int.ofNat_eq_natCast]; omega) (by simp only [Int.ofNat_eq_natCast]; omega)]
  rfl
theorem check_frM (o : Blk) (ho : inertB o = true) (vs : List ViewV) (hn : vs.length ≤ 9223372036854775807) (hrow : vs = [] ∨ ∃ ty ro, o = .cells ty (vrow vs) ro) (c : Nat) (W : Base) :
    FRwp Try.prog 34 W (.seq c18a (.seq (.seq c18b (.block 0 (.loop c18c))) c18d)) (B18 o vs.length c) (fun e st => (e = .normal ∨ e = .ret) ∧ st.df = [] ∧ retVal Try.prog Try.f18 st = some (errI (rightB vs))) := by
  have hO := fixO ho
  refine FRwp.seq (Q1 := fun x st => x = .normal ∧ ∃ g, st = A18 o vs.length c g) (FRwp.piece cE_ok follows 1 _ _ _ _ (r18a o vs.length c) Met.nil s18a rfl rfl rfl (hO _) fun g => ⟨rfl, g, rfl⟩) ?_ (fun x st hne hq => absurd hq.1 hne)
  rintro st ⟨-, g, rfl⟩
  let Q2 : Exit → St → Prop := fun x st => (x = .normal ∧ ∃ g, st = A18 o vs.length c g ∧ rightB vs = true) ∨ (x = .ret ∧ ∃ g, st = R18 o (iN 1) g ∧ rightB vs = false)
  refine FRwp.seq (Q1 := Q2) ?_ ?_ ?_
  · refine FRwp.seq (Q1 := fun x st => x = .normal ∧ ∃ g, st = L18 o vs.length c 0 g) (FRwp.piece cE_ok follows 1 _ _ _ _ (r18b o vs.length c g) Met.nil s18b rfl rfl rfl (hO _) fun g => ⟨rfl, g, rfl⟩) ?_ (fun x st hne hq => absurd hq.1 hne)
    rintro st ⟨-, g, rfl⟩
    refine FRwp.block ?_
    refine FRwp.loop (fun k st => ∃ i g, i ≤ vs.length ∧ k = vs.length - i ∧ (∀ j, j < i → rightAt vs j = true) ∧ st = L18 o vs.length c i g) ?_ (k := vs.length) ⟨0, g, Nat.zero_le _, rfl, fun j hj => absurd hj (Nat.not_lt_zero _), rfl⟩
    rintro k st ⟨i, g, hi, hk, hgood, rfl⟩
    cases h8 : decide (Int.ofNat i < Int.ofNat vs.length) with
    | false =>
      refine FRwp.piece cE_ok follows 1 _ _ _ _ (r18x o vs.length c i g) (Met.cons (met_bool h8) Met.nil) s18c rfl rfl rfl (hO _) fun g' => .inr ⟨by simp, ?_⟩
      show (if (0 : Nat) = 0 then Q2 .normal _ else Q2 (.exit 0) _)
      rw [if_pos rfl]
      have hii : i = vs.length := by simp at h8; omega
      exact .inl ⟨rfl, g', rfl, rightB_of fun j hj => hgood j (by omega)⟩
    | true =>
      have hlt : i < vs.length := by simpa using h8
      obtain ⟨v, hv⟩ : ∃ v, vs[i]? = some v := ⟨_, List.getElem?_eq_getElem hlt⟩
      have hvm : v ∈ vs := List.mem_of_getElem? hv
      have hr : ∃ ty ro, o = .cells ty (vrow vs) ro := by
        rcases hrow with h | h
        · subst h; cases hvm
        · exact h
      have hmet : Met (owe18 o vs.length c i v) := Met.cons (met_bool h8) (Met.cons (LtA.vidx_ok hlt) (Met.cons (LtA.vload_ok (rowAt0 hr) hv) Met.nil))
      have hret : ∀ g', rightAt vs i = false → (Exit.ret = Exit.normal ∧ ∃ k', k' < k ∧ ∃ i g, i ≤ vs.length ∧ k' = vs.length - i ∧ (∀ j, j < i → rightAt vs j = true) ∧ R18 o (iN 1) g' = L18 o vs.length c i g) ∨ (Exit.ret ≠ Exit.normal ∧ Q2 .ret (R18 o (iN 1) g')) := fun g' h => .inr ⟨by simp, .inr ⟨rfl, g', rfl, rightB_not hlt h⟩⟩
      have hnext : rightAt vs i = true → ∀ j, j < i + 1 → rightAt vs j = true := fun h j hj => by
        rcases Nat.lt_succ_iff_lt_or_eq.1 hj with h' | h'
        · exact hgood j h'
        · subst h'; exact h
      cases h16 : oneV v with
      | false => exact FRwp.piece cE_ok follows 1 _ _ _ _ (r18f o vs.length c i v g) (met_app hmet (Met.cons (met_bool h16) Met.nil)) s18c rfl rfl rfl (hO _) fun g' => hret g' (by simp only [rightAt, hv, h16, Bool.false_and])
      | true =>
        match i, hi, hk, hgood, h8, hlt, hv, hmet, hret, hnext with
        | 0, hi, hk, hgood, h8, hlt, hv, hmet, hret, hnext =>
          refine FRwp.piece cE_ok follows 1 _ _ _ _ (r18g o vs.length c v g) (met_app hmet (Met.cons (met_bool h16) (Met.cons (wrap_max (by omega)) Met.nil))) s18c rfl rfl rfl (hO _) fun g' => .inl ⟨rfl, vs.length - 1, by omega, 1, g', by omega, rfl, hnext (by simp only [rightAt, hv, h16, Bool.true_and]), rfl⟩
        | j + 1, hi, hk, hgood, h8, hlt, hv, hmet, hret, hnext =>
          obtain ⟨u, hu⟩ : ∃ u, vs[j]? = some u := ⟨_, List.getElem?_eq_getElem (by omega)⟩
          have hpre : Met (pre18 o vs.length c j u v) := met_app hmet (Met.cons (met_bool h16) (Met.cons (met_bool (decide_eq_true (by simp only [Int.ofNat_eq_natCast]; omega))) (Met.cons (wrap_dnM (by omega)) (Met.cons (LtA.vidx_ok (by omega)) (Met.cons (vcell_ok (rowAt0 hr) hu) Met.nil)))))
          cases h30 : decide (u.id ≥ v.id) with
          | true => exact FRwp.piece cE_ok follows 1 _ _ _ _ (r18h o vs.length c j u v g) (met_app hpre (Met.cons (met_bool h30) Met.nil)) s18c rfl rfl rfl (hO _) fun g' => hret g' (by simp only [rightAt, hv, hu, h16, Bool.true_and]; have := of_decide_eq_true h30; exact decide_eq_false (by omega))
          | false =>
            refine FRwp.piece cE_ok follows 1 _ _ _ _ (r18i o vs.length c j u v g) (met_app hpre (Met.cons (met_bool h30) (Met.cons (wrap_max (by omega)) Met.nil))) s18c rfl rfl rfl (hO _) fun g' => .inl ⟨rfl, vs.length - (j + 1 + 1), by omega, j + 1 + 1, g', by omega, rfl, hnext (by simp only [rightAt, hv, hu, h16, Bool.true_and]; have := of_decide_eq_false h30; exact decide_eq_true (by omega)), rfl⟩
  · rintro st (⟨-, g, rfl, hf⟩ | ⟨h, -⟩)
    · refine FRwp.piece cE_ok follows 1 _ _ _ _ (r18d o vs.length c g) Met.nil s18d rfl rfl rfl (hO _) fun g' => ⟨.inr rfl, rfl, ?_⟩
      rw [hf]
      exact q18 o _ g'
    · cases h
  · rintro x st hne (⟨h, -⟩ | ⟨rfl, g, rfl, hf⟩)
    · exact absurd h hne
    · refine ⟨.inr rfl, rfl, ?_⟩
      rw [hf]
      exact q18 o _ g
open Classical in
/-- Told at whatever row that P is true of. -/
noncomputable def toldQ (P : List ViewV → Prop) (A : List ViewV → Ans) : HeapFn := fun args hp => match args with
  | s :: _ => if h : ∃ vs, TN vs s hp ∧ P vs then rowG h.choose (A h.choose) args hp else none
  | _ => none
theorem toldQ_goal {P : List ViewV → Prop} {f : FuncId} {fn : Func} {code : Code} {N : Nat} {A : List ViewV → Ans} (hf : Try.prog.funcs[f]? = some fn) (hb : fn.body = some code) (hnm : (fn.name == "runtime.NumGoroutine") = false) (hN : fn.ntmps = N)
    (H : ∀ vs, P vs → ∀ rest v0 O, A vs rest = some (v0, O) → RowRun fn code N vs rest v0 O) : CallGoal Try.prog f (toldQ P A) := by
  intro args hp v hp' he hk
  unfold toldQ at he
  split at he
  case h_2 => cases he
  split at he
  · rename_i hx
    exact row_told hf hb hnm hN (H _ hx.choose_spec.2) _ _ _ _ he hk
  · cases he
open Classical in
theorem toldQ_of {P : List ViewV → Prop} {A : List ViewV → Ans} {vs : List ViewV} {s : Value} {rest : List Value} {hp : Hp} {v0 : Value} (h : TN vs s hp) (hP : P vs) (hA : A vs rest = some (v0, [])) (hv : sh3 [] hp.sz v0 = v0) :
    toldQ P A (s :: rest) hp = some (v0, heapOf [.dead] hp) := by
  unfold toldQ
  have hx : ∃ vs, TN vs s hp ∧ P vs := ⟨vs, h, hP⟩
  simp only
  rw [dif_pos hx, hx.choose_spec.1.uniq h]
  show (if TN vs s hp then _ else _) = _
  rw [if_pos h, hA]
  show some (sh3 [] hp.sz v0, _) = _
  rw [hv]; rfl
def ckR (vs : List ViewV) : Ans := fun rest => match rest with
  | [] => some (errI (rightB vs), [])
  | _ => none
def Long (vs : List ViewV) : Prop := vs.length ≤ 9223372036854775807
noncomputable def G18M : HeapFn := toldQ Long ckR
theorem hkG18M : CallGoal Try.prog 18 G18M := toldQ_goal Try.func18 body18 (by kernel_rfl) ntmps18 fun vs hn rest v0 O h => by
  unfold ckR at h
  split at h
  case h_2 => cases h
  cases h
  refine ⟨.inl rfl, (errI_ok _).1, (fun r hr => by cases hr), by simp, fun f o c W ho hrow hfl => ?_⟩
  cases f with
  | true => exact FRwp.mono (check_frM o ho vs hn hrow c W) fun e st q => ⟨q.1, q.2.1, q.2.2, (fun B hB => by cases hB)⟩
  | false =>
    obtain ⟨rfl, rfl⟩ := hfl rfl
    exact FRwp.mono (check_nil W) fun e st q => ⟨q.1, q.2.1, q.2.2, (fun B hB => by cases hB)⟩
theorem G18M_of {vs : List ViewV} {s : Value} {hp : Hp} (h : TN vs s hp) (hn : Long vs) : G18M [s] hp = some (errI (rightB vs), heapOf [.dead] hp) := toldQ_of h hn rfl ((errI_ok _).2 _ _)
/-! ### Set, at a row that is not right -/
noncomputable def E27L : Ext := extG (extH Try.prog [(55, g55)]) [(18, G18M)]
theorem E27L_ok : ExtOk Try.prog E27L := extG_ok (extH_ok (.cons hk55 (.nil))) (.cons hkG18M (.nil))
noncomputable def c27L : CallF := aCall Try.prog E27L 5
theorem c27L_ok : CallOk Try.prog c27L := aCall_sound E27L_ok follows 5
theorem c27L_18 (args : List Value) (hp : Hp) : c27L 18 args hp = G18M args hp := by
  show aCall Try.prog E27L 5 18 _ _ = _
  rw [aCall]; rfl
section
variable (o : Blk) (n c : Nat) (y : ViewV)
theorem r27L : (execE Try.prog c27L [] [(12, iN 1, [.dead])] [] 40 fb27 (B27 o n c y)).map (fun z => (look2 0 [] [6, 7] (z.1, z.2.1), z.2.2)) =
    some ((.ret, [], [(6, nilS), (7, iN 1)], true), [], [(c27L 18 [rowS 0 n c] (hS0 o y), (iN 1, heapOf [.dead] (hS0 o y)))], []) := by kernel_rfl
end
def setL (vs : List ViewV) : Ans := fun rest => match rest with
  | [.int .i64 id, v] => (unH v).map fun _ => (.tuple #[nilS, iN 1], [])
  | _ => none
def Bad (vs : List ViewV) : Prop := Long vs ∧ rightB vs = false
noncomputable def G27L : HeapFn := toldQ Bad setL
theorem hkG27L : CallGoal Try.prog 27 G27L := toldQ_goal Try.func27 body27 (by kernel_rfl) ntmps27 fun vs hn rest v0 O h => by
  unfold setL at h
  split at h
  case h_2 => cases h
  rename_i id v
  obtain ⟨x, hx, h2⟩ := Option.map_eq_some_iff.1 h
  obtain rfl := unH_some hx
  cases h2
  refine ⟨.inl rfl, rfl, (by intro r hr; have e : r = .int .i64 id ∨ r = hcA x := (by simpa using hr); rcases e with e | e <;> rw [e]; exact stay_int _ _; exact stay_h _), by simp, fun f o c W ho hrow hfl => ?_⟩
  cases f with
  | true =>
    have hT : TN vs (rowS 0 vs.length c) (hS0 o ⟨id, x.n, x.t, x.o, x.r, x.d, x.i⟩) := .inr ⟨0, c, o, rfl, by unfold hS0; rw [heapOf0_get]; rfl, ho, hrow⟩
    have hc := (c27L_18 [rowS 0 vs.length c] (hS0 o ⟨id, x.n, x.t, x.o, x.r, x.d, x.i⟩)).trans (G18M_of hT hn.1)
    rw [hn.2] at hc
    exact FRwp.pieceY c27L_ok follows 0 _ _ _ _ (r27L o vs.length c ⟨id, x.n, x.t, x.o, x.r, x.d, x.i⟩) Met.nil (MetH.cons hc MetH.nil) MetE.nil s27 rfl rfl (noFix _) fun g => ⟨.inr rfl, rfl, q27 _ _ _ g, (fun B hB => by cases hB)⟩
  | false =>
    have h0 := (hfl rfl).1
    have h1 := hn.2
    rw [h0] at h1
    cases h1
theorem G27L_of {vs : List ViewV} {s : Value} {hp : Hp} (y : ViewV) (h : TN vs s hp) (hn : Bad vs) : G27L [s, .int .i64 y.id, hcA y] hp = some (.tuple #[nilS, iN 1], heapOf [.dead] hp) := toldQ_of h hn rfl (by simp [sh3, sh2, sh1, nilS, iN])
/-- Set, at whatever row: two blocks laid. -/
noncomputable def G27M : HeapFn := orFn (padF G27) (padF G27L)
theorem hkG27M : CallGoal Try.prog 27 G27M := orFn_goal (pad_goal hkG27) (pad_goal hkG27L)
theorem right_short {vs : List ViewV} (h : rightB vs = true) : vs.length ≤ 64 := by
  obtain ⟨h1, h2⟩ := right_iff.1 h
  have hid : ∀ i, (hi : i < vs.length) → (i : Int) ≤ (vs[i]).id := fun i => by
    induction i with
    | zero =>
      intro hi
      have := h1 _ (List.getElem_mem hi)
      unfold oneV oneB at this
      simp only [Bool.and_eq_true, decide_eq_true_eq] at this
      simpa using this.1
    | succ i ih =>
      intro hi
      have a := ih (by omega)
      have b := List.pairwise_iff_getElem.1 h2 i (i + 1) (by omega) hi (by omega)
      omega
  rcases Nat.lt_or_ge 64 vs.length with hl | hl
  · have := hid 64 hl
    have h3 := h1 _ (List.getElem_mem hl)
    unfold oneV oneB at h3
    simp only [Bool.and_eq_true, decide_eq_true_eq] at h3
    omega
  · exact hl
theorem G27M_ok {vs : List ViewV} {s : Value} {hp : Hp} (y : ViewV) (h : TN vs s hp) (hr : (rightB vs && oneV y) = true) :
    G27M [s, .int .i64 y.id, hcA y] hp = some (.tuple #[rowS hp.sz (setV vs y).length (setC s vs y.id), iN 0], heapOf [LtA.rowB (setV vs y), .dead] hp) := by
  have hl := right_short (Bool.and_eq_true_iff.1 hr).1
  have e := G27_of y h (by omega)
  rw [hr] at e
  unfold G27M orFn
  rw [pad_two e]
theorem G27M_no {vs : List ViewV} {s : Value} {hp : Hp} (y : ViewV) (h : TN vs s hp) (hl : Long vs) (hr : (rightB vs && oneV y) = false) :
    G27M [s, .int .i64 y.id, hcA y] hp = some (.tuple #[nilS, iN 1], heapOf [.dead, .dead] hp) := by
  unfold G27M orFn
  rcases Nat.lt_or_ge vs.length 1000000 with hn | hn
  · have e := G27_of y h hn
    rw [hr] at e
    rw [pad_one e]
  · have hb : rightB vs = false := by
      cases e : rightB vs with
      | false => rfl
      | true => have := right_short e; omega
    have e0 : G27 [s, .int .i64 y.id, hcA y] hp = none := by
      unfold G27 atRow
      simp only
      rw [dif_neg]
      rintro ⟨us, h1, h2, -⟩
      have := h1.uniq h
      subst this
      omega
    have e1 : padF G27 [s, .int .i64 y.id, hcA y] hp = none := by unfold padF; rw [e0]
    rw [e1]
    exact pad_one (G27L_of y h ⟨hl, hb⟩)
end Go.Proofs.Ytiogdklmhpllfaa.LtL
namespace Go.Proofs.Ytiogdklmhpllfaa.LtL
open Go Go.Proofs Go.Proofs.Ytiogdklmhpllfaa.AI Go.RowKit Go.Proofs.Ytiogdklmhpllfaa.Sort Go.Proofs.Ytiogdklmhpllfaa.LtA

noncomputable def E9S : Ext := extG (extH Try.prog [(16, g16), (15, g15), (17, g17)]) [(33, G33M), (27, G27M), (19, G19), (21, G21), (22, G22), (23, gSI)]
theorem E9S_ok : ExtOk Try.prog E9S := extG_ok (extH_ok (.cons hk16 (.cons hk15 (.cons hk17 (.nil))))) (.cons hkG33M (.cons hkG27M (.cons hkG19 (.cons hkG21 (.cons hkG22 (.cons hkSI (.nil)))))))
noncomputable def c9 : CallF := aCall Try.prog E9S 5
theorem c9_ok : CallOk Try.prog c9 := aCall_sound E9S_ok follows 5
theorem c9_33 (args : List Value) (hp : Hp) : c9 33 args hp = G33M args hp := by
  show aCall Try.prog E9S 5 33 _ _ = _
  rw [aCall]; rfl
theorem c9_27 (args : List Value) (hp : Hp) : c9 27 args hp = G27M args hp := by
  show aCall Try.prog E9S 5 27 _ _ = _
  rw [aCall]; rfl
theorem c9_19 (args : List Value) (hp : Hp) : c9 19 args hp = G19 args hp := by
  show aCall Try.prog E9S 5 19 _ _ = _
  rw [aCall]; rfl
theorem c9_21 (args : List Value) (hp : Hp) : c9 21 args hp = G21 args hp := by
  show aCall Try.prog E9S 5 21 _ _ = _
  rw [aCall]; rfl
theorem c9_22 (args : List Value) (hp : Hp) : c9 22 args hp = G22 args hp := by
  show aCall Try.prog E9S 5 22 _ _ = _
  rw [aCall]; rfl
theorem c9_23 (args : List Value) (hp : Hp) : c9 23 args hp = gSI args hp := by
  show aCall Try.prog E9S 5 23 _ _ = _
  rw [aCall]; rfl
noncomputable def fb9 : Code := (Try.f9.body).getD .skip
noncomputable def p9 : Nat → Code
  | 0 => fb9
  | n + 1 => sR (p9 n)
noncomputable def c9a : Code := sL (p9 0)
noncomputable def c9b : Code := sL (p9 1)
noncomputable def c9c : Code := sL (p9 2)
noncomputable def c9d : Code := sL (p9 3)
noncomputable def c9e : Code := sL (p9 4)
noncomputable def c9f : Code := sL (p9 5)
noncomputable def c9g : Code := sL (p9 6)
noncomputable def c9h : Code := sL (sL (p9 7))
noncomputable def c9i : Code := unL (unB (sR (sL (p9 7))))
noncomputable def c9j : Code := sL (p9 8)
noncomputable def c9k : Code := sL (p9 9)
noncomputable def c9l : Code := sL (p9 10)
noncomputable def c9m : Code := p9 11
noncomputable abbrev code9 : Code := .seq c9a (.seq c9b (.seq c9c (.seq c9d (.seq c9e (.seq c9f (.seq c9g (.seq (.seq c9h (.block 0 (.loop c9i))) (.seq c9j (.seq c9k (.seq c9l c9m))))))))))
theorem body9 : Try.f9.body = some code9 := by kernel_rfl
theorem ntmps9 : Try.f9.ntmps = 140 := by kernel_rfl
theorem s9a : codeSafe Try.prog 140 c9a = true := by kernel_rfl
theorem s9b : codeSafe Try.prog 140 c9b = true := by kernel_rfl
theorem s9c : codeSafe Try.prog 140 c9c = true := by kernel_rfl
theorem s9d : codeSafe Try.prog 140 c9d = true := by kernel_rfl
theorem s9e : codeSafe Try.prog 140 c9e = true := by kernel_rfl
theorem s9f : codeSafe Try.prog 140 c9f = true := by kernel_rfl
theorem s9g : codeSafe Try.prog 140 c9g = true := by kernel_rfl
theorem s9h : codeSafe Try.prog 140 c9h = true := by kernel_rfl
theorem s9i : codeSafe Try.prog 140 c9i = true := by kernel_rfl
theorem s9j : codeSafe Try.prog 140 c9j = true := by kernel_rfl
theorem s9k : codeSafe Try.prog 140 c9k = true := by kernel_rfl
theorem s9l : codeSafe Try.prog 140 c9l = true := by kernel_rfl
theorem s9m : codeSafe Try.prog 140 c9m = true := by kernel_rfl
theorem q9 (v : Value) (O : List Blk) (g : Nat → Value) : retVal Try.prog Try.f9 (stOf 140 g [(8, v)] O) = some v := by kernel_rfl
section
variable (f fa fb fm fr b b1 dn lb : Bool) (o A B C R : Blk) (n c i j q m cm ka kb kr e : Nat) (z zz : Int) (x y own yl : ViewV) (ids : List Int) (g : Nat → Value)
theorem r9a : (execE Try.prog c9 [] [] [] 20 c9a ⟨tmsOf [vS f 0 n c, hcA own, .int .i64 y.id, hcA y] 0 .leaf, heapOf [o, .dead] hp0, []⟩).map (fun z => (look2 1 [0, 2, 3] [0, 2, 5, 7] (z.1, z.2.1), z.2.2)) =
    some ((.normal, [o, hB own, hB y], [(0, vS f 0 n c), (2, .int .i64 y.id), (5, pb 1 0), (7, pb 2 0)], true), [], [], []) := by cases f <;> kernel_rfl
def h9 (o : Blk) (own y : ViewV) : Hp := heapOf ([o, hB own, hB y] ++ [.dead]) hp0
theorem r9b : (execE Try.prog c9 [] [(25, gT x b, [.dead])] [] 20 c9b (stOf 140 g [(0, vS f 0 n c), (2, .int .i64 y.id), (5, pb 1 0), (7, pb 2 0)] [o, hB own, hB y])).map (fun z => (look2 1 [0, 1, 2] [0, 2, 5, 7, 10] (z.1, z.2.1), z.2.2)) =
    some ((.normal, [o, hB own, hB y], [(0, vS f 0 n c), (2, .int .i64 y.id), (5, pb 1 0), (7, pb 2 0), (10, .bool b)], true), [], [(c9 33 [vS f 0 n c, .int .i64 y.id] (h9 o own y), (gT x b, heapOf [.dead] (h9 o own y)))], []) := by cases f <;> kernel_rfl
theorem r9c : (execE Try.prog c9 [] [(32, .tuple #[vS fm 4 m cm, iN e], [B, .dead])] [] 20 c9c (stOf 140 g [(0, vS f 0 n c), (2, .int .i64 y.id), (5, pb 1 0), (7, pb 2 0), (10, .bool b)] [o, hB own, hB y])).map (fun z => (look2 2 [0, 4, 1, 2] [0, 2, 5, 7, 10, 11, 12] (z.1, z.2.1), z.2.2)) =
    some ((.normal, [o, B, hB own, hB y], [(0, vS f 0 n c), (2, .int .i64 y.id), (5, pb 2 0), (7, pb 3 0), (10, .bool b), (11, vS fm 1 m cm), (12, iN e)], true), [], [(c9 27 [vS f 0 n c, .int .i64 y.id, hcA y] (h9 o own y), (.tuple #[vS fm 4 m cm, iN e], heapOf [B, .dead] (h9 o own y)))], []) := by cases f <;> cases fm <;> kernel_rfl
theorem r9d1 : (execE Try.prog c9 [(37, .bool true)] [] [] 20 c9d (stOf 140 g [(0, vS f 0 n c), (2, .int .i64 y.id), (5, pb 2 0), (7, pb 3 0), (10, .bool b), (11, vS fm 1 m cm), (12, iN e)] [o, B, hB own, hB y])).map (fun z => (look2 0 [] [8] (z.1, z.2.1), z.2.2)) =
    some ((.ret, [], [(8, .bool true)], true), [(some (.bool (decide (Int.ofNat (kk f n) > 80))), .bool true)], [], []) := by cases f <;> cases fm <;> kernel_rfl
theorem r9d2 : (execE Try.prog c9 [(37, .bool false), (40, .bool true)] [] [] 20 c9d (stOf 140 g [(0, vS f 0 n c), (2, .int .i64 y.id), (5, pb 2 0), (7, pb 3 0), (10, .bool b), (11, vS fm 1 m cm), (12, iN e)] [o, B, hB own, hB y])).map (fun z => (look2 0 [] [8] (z.1, z.2.1), z.2.2)) =
    some ((.ret, [], [(8, .bool true)], true), [(some (.bool (decide (Int.ofNat (kk f n) > 80))), .bool false), (some (.bool (Int.ofNat e != 0)), .bool true)], [], []) := by cases f <;> cases fm <;> kernel_rfl
theorem r9d3 : (execE Try.prog c9 [(37, .bool false), (40, .bool false)] [] [] 20 c9d (stOf 140 g [(0, vS f 0 n c), (2, .int .i64 y.id), (5, pb 2 0), (7, pb 3 0), (10, .bool true), (11, vS fm 1 m cm), (12, iN e)] [o, B, hB own, hB y])).map (fun z => (look2 0 [] [8] (z.1, z.2.1), z.2.2)) =
    some ((.ret, [], [(8, .bool true)], true), [(some (.bool (decide (Int.ofNat (kk f n) > 80))), .bool false), (some (.bool (Int.ofNat e != 0)), .bool false)], [], []) := by cases f <;> cases fm <;> kernel_rfl
theorem r9d4 : (execE Try.prog c9 [(37, .bool false), (40, .bool false), (48, .bool true)] [] [] 20 c9d (stOf 140 g [(0, vS f 0 n c), (2, .int .i64 y.id), (5, pb 2 0), (7, pb 3 0), (10, .bool false), (11, vS fm 1 m cm), (12, iN e)] [o, B, hB own, hB y])).map (fun z => (look2 0 [] [8] (z.1, z.2.1), z.2.2)) =
    some ((.ret, [], [(8, .bool true)], true), [(some (.bool (decide (Int.ofNat (kk f n) > 80))), .bool false), (some (.bool (Int.ofNat e != 0)), .bool false), chO own true], [], []) := by cases f <;> cases fm <;> kernel_rfl
theorem r9d5 : (execE Try.prog c9 [(37, .bool false), (40, .bool false), (48, .bool false), (52, .bool true)] [] [] 20 c9d (stOf 140 g [(0, vS f 0 n c), (2, .int .i64 y.id), (5, pb 2 0), (7, pb 3 0), (10, .bool false), (11, vS fm 1 m cm), (12, iN e)] [o, B, hB own, hB y])).map (fun z => (look2 0 [] [8] (z.1, z.2.1), z.2.2)) =
    some ((.ret, [], [(8, .bool true)], true), [(some (.bool (decide (Int.ofNat (kk f n) > 80))), .bool false), (some (.bool (Int.ofNat e != 0)), .bool false), chO own false, (some (.bool own.n), .bool true)], [], []) := by cases f <;> cases fm <;> kernel_rfl
theorem r9d6 : (execE Try.prog c9 [(37, .bool false), (40, .bool false), (48, .bool false), (52, .bool false)] [] [] 20 c9d (stOf 140 g [(0, vS f 0 n c), (2, .int .i64 y.id), (5, pb 2 0), (7, pb 3 0), (10, .bool false), (11, rowS 1 m cm), (12, iN e)] [o, B, hB own, hB y])).map (fun z => (look2 2 [0, 1, 2, 3] [0, 2, 5, 7, 11] (z.1, z.2.1), z.2.2)) =
    some ((.normal, [o, B, hB own, hB y], [(0, vS f 0 n c), (2, .int .i64 y.id), (5, pb 2 0), (7, pb 3 0), (11, rowS 1 m cm)], true), [(some (.bool (decide (Int.ofNat (kk f n) > 80))), .bool false), (some (.bool (Int.ofNat e != 0)), .bool false), chO own false, (some (.bool own.n), .bool false)], [], []) := by cases f <;> kernel_rfl
def h9a (o B : Blk) (own y : ViewV) : Hp := heapOf ([o, B, hB own, hB y] ++ [.dead]) hp0
theorem r9e : (execE Try.prog c9 [] [(57, vI fa 5 ka, [A, .dead])] [] 20 c9e (stOf 140 g [(0, vS f 0 n c), (2, .int .i64 y.id), (5, pb 2 0), (7, pb 3 0), (11, rowS 1 m cm)] [o, B, hB own, hB y])).map (fun z => (look2 2 [1, 5, 2, 3] [2, 5, 7, 11, 13] (z.1, z.2.1), z.2.2)) =
    some ((.normal, [B, A, hB own, hB y], [(2, .int .i64 y.id), (5, pb 2 0), (7, pb 3 0), (11, rowS 0 m cm), (13, vI fa 1 ka)], true), [], [(c9 19 [vS f 0 n c, hcA own] (h9a o B own y), (vI fa 5 ka, heapOf [A, .dead] (h9a o B own y)))], []) := by cases f <;> cases fa <;> kernel_rfl
def h9b (B A : Blk) (own y : ViewV) : Hp := heapOf ([B, A, hB own, hB y] ++ [.dead]) hp0
theorem r9f : (execE Try.prog c9 [] [(60, vI fb 5 kb, [C, .dead])] [] 20 c9f (stOf 140 g [(2, .int .i64 y.id), (5, pb 2 0), (7, pb 3 0), (11, rowS 0 m cm), (13, vI fa 1 ka)] [B, A, hB own, hB y])).map (fun z => (look2 3 [0, 1, 5, 2, 3] [2, 5, 7, 11, 13, 14] (z.1, z.2.1), z.2.2)) =
    some ((.normal, [B, A, C, hB own, hB y], [(2, .int .i64 y.id), (5, pb 3 0), (7, pb 4 0), (11, rowS 0 m cm), (13, vI fa 1 ka), (14, vI fb 2 kb)], true), [], [(c9 19 [rowS 0 m cm, hcA own] (h9b B A own y), (vI fb 5 kb, heapOf [C, .dead] (h9b B A own y)))], []) := by cases fa <;> cases fb <;> kernel_rfl
theorem r9g : (execE Try.prog c9 [] [] [] 20 c9g (stOf 140 g [(2, .int .i64 y.id), (5, pb 3 0), (7, pb 4 0), (11, rowS 0 m cm), (13, vI fa 1 ka), (14, vI fb 2 kb)] [B, A, C, hB own, hB y])).map (fun z => (look2 4 [0, 1, 2, 5, 3, 4] [2, 5, 7, 11, 13, 14, 15] (z.1, z.2.1), z.2.2)) =
    some ((.normal, [B, A, C, .dead, hB own, hB y], [(2, .int .i64 y.id), (5, pb 4 0), (7, pb 5 0), (11, rowS 0 m cm), (13, vI fa 1 ka), (14, vI fb 2 kb), (15, nilS)], true), [], [], []) := by cases fa <;> cases fb <;> kernel_rfl
theorem r9h : (execE Try.prog c9 [] [] [] 20 c9h (stOf 140 g [(2, .int .i64 y.id), (5, pb 4 0), (7, pb 5 0), (11, rowS 0 m cm), (13, vI fa 1 ka), (14, vI fb 2 kb), (15, nilS)] [B, A, C, .dead, hB own, hB y])).map (fun z => (look2 4 [0, 1, 2, 3, 4, 5] [2, 5, 7, 11, 13, 14, 15, 16] (z.1, z.2.1), z.2.2)) =
    some ((.normal, [B, A, C, .dead, hB own, hB y], [(2, .int .i64 y.id), (5, pb 4 0), (7, pb 5 0), (11, rowS 0 m cm), (13, vI fa 1 ka), (14, vI fb 2 kb), (15, nilS), (16, iN 0)], true), [], [], []) := by cases fa <;> cases fb <;> kernel_rfl
abbrev M9 (R : Blk) (fr : Bool) (kr : Nat) (g : Nat → Value) : St := (stOf 140 g [(2, .int .i64 y.id), (5, pb 4 0), (7, pb 5 0), (11, rowS 0 m cm), (13, vI fa 1 ka), (14, vI fb 2 kb), (15, vI fr 3 kr)] [B, A, C, R, hB own, hB y])
abbrev L9 (R : Blk) (fr : Bool) (kr j : Nat) (g : Nat → Value) : St := (stOf 140 g [(2, .int .i64 y.id), (5, pb 4 0), (7, pb 5 0), (11, rowS 0 m cm), (13, vI fa 1 ka), (14, vI fb 2 kb), (15, vI fr 3 kr), (16, iN j)] [B, A, C, R, hB own, hB y])
def h9c (B A C R : Blk) (own y : ViewV) : Hp := heapOf ([B, A, C, R, hB own, hB y] ++ [.dead]) hp0
theorem r9ix : (execE Try.prog c9 [(64, .bool false)] [] [] 20 c9i (L9 fa fb A B C m cm ka kb y own R fr kr j g)).map (fun z => (look2 4 [0, 1, 2, 3, 4, 5] [2, 5, 7, 11, 13, 14, 15] (z.1, z.2.1), z.2.2)) =
    some ((.exit 0, [B, A, C, R, hB own, hB y], [(2, .int .i64 y.id), (5, pb 4 0), (7, pb 5 0), (11, rowS 0 m cm), (13, vI fa 1 ka), (14, vI fb 2 kb), (15, vI fr 3 kr)], true), [ltO j (kk fb kb) false], [], []) := by cases fa <;> cases fb <;> cases fr <;> kernel_rfl
theorem r9if : (execE Try.prog c9 [(64, .bool true), (69, pb 2 j), (70, .int .i64 z), (72, .bool false), (66, iN (j + 1))] [] [] 20 c9i (L9 fa true A B C m cm ka kb y own R fr kr j g)).map (fun z => (look2 4 [0, 1, 2, 3, 4, 5] [2, 5, 7, 11, 13, 14, 15, 16] (z.1, z.2.1), z.2.2)) =
    some ((.normal, [B, A, C, R, hB own, hB y], [(2, .int .i64 y.id), (5, pb 4 0), (7, pb 5 0), (11, rowS 0 m cm), (13, vI fa 1 ka), (14, vI true 2 kb), (15, vI fr 3 kr), (16, iN (j + 1))], true), [ltO j kb true, ixI 2 kb j, ldO (h9c B A C R own y).get 3 2 j (.int .i64 z), (some (.bool (z != y.id)), .bool false), nxt29 j], [], []) := by cases fa <;> cases fr <;> kernel_rfl
theorem r9it : (execE Try.prog c9 [(64, .bool true), (69, pb 2 j), (70, .int .i64 z), (72, .bool true), (76, pb 2 j), (77, .int .i64 z), (66, iN (j + 1))] [] [(79, newI 8 (kr + 1), effF fr 3 (iB ids))] 20 c9i (L9 fa true A B C m cm ka kb y own R fr kr j g)).map (fun z => (look2 4 [0, 1, 2, 8, 4, 5] [2, 5, 7, 11, 13, 14, 15, 16] (z.1, z.2.1), z.2.2)) =
    some ((.normal, [B, A, C, iB ids, hB own, hB y], [(2, .int .i64 y.id), (5, pb 4 0), (7, pb 5 0), (11, rowS 0 m cm), (13, vI fa 1 ka), (14, vI true 2 kb), (15, newI 3 (kr + 1)), (16, iN (j + 1))], true), [ltO j kb true, ixI 2 kb j, ldO (h9c B A C R own y).get 3 2 j (.int .i64 z), (some (.bool (z != y.id)), .bool true), ixI 2 kb j, ldO (h9c B A C R own y).get 3 2 j (.int .i64 z), nxt29 j], [], [apI ((h9c B A C R own y).push (.cells 3 [icell z] false)) 8 3 kr 7 fr ids]) := by cases fa <;> cases fr <;> kernel_rfl
theorem r9j : (execE Try.prog c9 [(82, .bool dn)] [] [] 20 c9j (M9 fa fb A B C m cm ka kb y own R fr kr g)).map (fun z => (look2 4 [0, 1, 2, 3, 4] [2, 5, 11, 13, 14, 15, 17] (z.1, z.2.1), z.2.2)) =
    some ((.normal, [B, A, C, R, hB own], [(2, .int .i64 y.id), (5, pb 4 0), (11, rowS 0 m cm), (13, vI fa 1 ka), (14, vI fb 2 kb), (15, vI fr 3 kr), (17, .bool dn)], true), [leV y own dn], [], []) := by cases fa <;> cases fb <;> cases fr <;> kernel_rfl
def h9d (B A C R : Blk) (own : ViewV) : Hp := heapOf ([B, A, C, R, hB own] ++ [.dead]) hp0
theorem r9k : (execE Try.prog c9 [] [(85, .tuple #[.agg ⟨vc yl⟩, .bool lb], [.dead])] [] 20 c9k (stOf 140 g [(2, .int .i64 y.id), (5, pb 4 0), (11, rowS 0 m cm), (13, vI fa 1 ka), (14, vI fb 2 kb), (15, vI fr 3 kr), (17, .bool dn)] [B, A, C, R, hB own])).map (fun z => (look2 4 [0, 1, 2, 3, 4, 7] [2, 5, 11, 13, 14, 15, 17, 18, 19] (z.1, z.2.1), z.2.2)) =
    some ((.normal, [B, A, C, R, hB own, LtA.vB yl], [(2, .int .i64 y.id), (5, pb 4 0), (11, rowS 0 m cm), (13, vI fa 1 ka), (14, vI fb 2 kb), (15, vI fr 3 kr), (17, .bool dn), (18, pb 5 0), (19, .bool lb)], true), [], [(c9 21 [rowS 0 m cm] (h9d B A C R own), (.tuple #[.agg ⟨vc yl⟩, .bool lb], heapOf [.dead] (h9d B A C R own)))], []) := by cases fa <;> cases fb <;> cases fr <;> kernel_rfl
def h9e (B A C R : Blk) (own yl : ViewV) : Hp := heapOf ([B, A, C, R, hB own, LtA.vB yl] ++ [.dead]) hp0
theorem r9l : (execE Try.prog c9 [] [(91, .tuple #[.int .i64 zz, .bool fb], [.dead])] [] 20 c9l (stOf 140 g [(2, .int .i64 y.id), (5, pb 4 0), (11, rowS 0 m cm), (13, vI fa 1 ka), (14, vI fb 2 kb), (15, vI fr 3 kr), (17, .bool dn), (18, pb 5 0), (19, .bool lb)] [B, A, C, R, hB own, LtA.vB yl])).map (fun z => (look2 4 [0, 1, 2, 3, 4, 5] [2, 5, 11, 13, 14, 15, 17, 18, 19, 20, 21] (z.1, z.2.1), z.2.2)) =
    some ((.normal, [B, A, C, R, hB own, LtA.vB yl], [(2, .int .i64 y.id), (5, pb 4 0), (11, rowS 0 m cm), (13, vI fa 1 ka), (14, vI fb 2 kb), (15, vI fr 3 kr), (17, .bool dn), (18, pb 5 0), (19, .bool lb), (20, .int .i64 zz), (21, .bool fb)], true), [], [(c9 22 [rowS 0 m cm, hcA own] (h9e B A C R own yl), (.tuple #[.int .i64 zz, .bool fb], heapOf [.dead] (h9e B A C R own yl)))], []) := by cases fa <;> cases fb <;> cases fr <;> kernel_rfl
theorem r9mt : (execZ Try.prog c9 [(105, iN (kk fa ka + 1)), (106, .bool true), (115, .bool false), (131, .bool b1), (135, .bool b1), (136, .bool true)] [(98, .bool true, [.dead])] [] 20 c9m (stOf 140 g [(2, .int .i64 y.id), (5, pb 4 0), (11, rowS 0 m cm), (13, vI fa 1 ka), (14, vI true 2 kb), (15, vI fr 3 kr), (17, .bool true), (18, pb 5 0), (19, .bool true), (20, .int .i64 zz), (21, .bool true)] [B, A, C, R, hB own, LtA.vB yl])).map (fun z => (look2 0 [] [8] (z.1, z.2.1), z.2.2)) =
    some ((.ret, [], [(8, .bool true)], true), [nxt29 (kk fa ka), eqO kb (kk fa ka + 1) true, eqO kb (kk fa ka) false, (some (.bool (zz == y.id)), .bool b1), (some (.bool (yl.id == y.id)), .bool b1), (some (.bool (b1 == b1)), .bool true)], [(c9 23 [vI fr 3 kr, vI fa 1 ka] (h9e B A C R own yl), (.bool true, heapOf [.dead] (h9e B A C R own yl)))], []) := by cases fa <;> cases fr <;> kernel_rfl
theorem r9mf : (execZ Try.prog c9 [(105, iN (kk fa ka + 1)), (106, .bool false), (115, .bool true)] [(98, .bool true, [.dead])] [] 20 c9m (stOf 140 g [(2, .int .i64 y.id), (5, pb 4 0), (11, rowS 0 m cm), (13, vI fa 1 ka), (14, vI fb 2 kb), (15, vI fr 3 kr), (17, .bool false), (18, pb 5 0), (19, .bool lb), (20, .int .i64 zz), (21, .bool fb)] [B, A, C, R, hB own, LtA.vB yl])).map (fun z => (look2 0 [] [8] (z.1, z.2.1), z.2.2)) =
    some ((.ret, [], [(8, .bool true)], true), [nxt29 (kk fa ka), eqO (kk fb kb) (kk fa ka + 1) false, eqO (kk fb kb) (kk fa ka) true], [(c9 23 [vI fr 3 kr, vI fa 1 ka] (h9e B A C R own yl), (.bool true, heapOf [.dead] (h9e B A C R own yl)))], []) := by cases fa <;> cases fb <;> cases fr <;> kernel_rfl
end
end Go.Proofs.Ytiogdklmhpllfaa.LtL
namespace Go.Proofs.Ytiogdklmhpllfaa.LtL
open Go Go.Proofs Go.Proofs.Ytiogdklmhpllfaa.AI Go.RowKit Go.Proofs.Ytiogdklmhpllfaa.Sort Go.Proofs.Ytiogdklmhpllfaa.LtA

theorem insB_filter {T : List ViewV} {x : ViewV} (q : ViewV → Bool) (hT : Srt ltV T) (hK : ∀ z ∈ T, Kn z) (hx : Kn x) : (insB ltV T x).filter q = bif q x then insB ltV (T.filter q) x else T.filter q := by
  obtain ⟨P, Q, h1, h2, h3, h4⟩ := ins_eq ltV T x
  rw [h2]; subst h1
  have hP : ∀ p ∈ P, ltV x p = false := fun p hp => by
    rcases List.eq_nil_or_concat P with rfl | ⟨P', p0, hPe⟩
    · cases hp
    · rw [List.concat_eq_append] at hPe
      subst hPe
      have h0 := h4 p0 (by simp)
      rcases List.mem_append.1 (by simpa using hp : p ∈ P' ++ [p0]) with hp' | hp'
      · have hs := (List.pairwise_append.1 (List.pairwise_append.1 hT).1)
        have := hs.2.2 p hp' p0 (.head _)
        exact sw.ntr x p0 p hx (hK p0 (by simp)) (hK p (by simp [hp'])) h0 this
      · have : p = p0 := by simpa using hp'
        rw [this]; exact h0
  rw [List.filter_append]
  cases hq : q x with
  | true =>
    rw [List.filter_cons_of_pos hq, cond_true, List.filter_append]
    exact (insB_of rfl (fun z hz => h3 z (List.mem_filter.1 hz).1) (fun p hp => hP p (List.mem_filter.1 (List.mem_of_getLast? hp)).1)).symm
  | false => rw [List.filter_cons_of_neg (by rw [hq]; simp), cond_false, List.filter_append]
theorem filter_mrg (q : ViewV → Bool) : ∀ {R L : List ViewV}, Srt ltV L → (∀ z ∈ L, Kn z) → (∀ z ∈ R, Kn z) → (mrg ltV L R).filter q = mrg ltV (L.filter q) (R.filter q)
  | [], L, _, _, _ => rfl
  | r :: R, L, h1, h2, h3 => by
    have hr := h3 r (.head _)
    have e := filter_mrg q (R := R) (L := insB ltV L r) (srt_insB sw h1 h2 hr) (fun z hz => by
      rcases mem_insB.1 hz with rfl | hz
      · exact hr
      · exact h2 z hz) (fun z hz => h3 z (.tail _ hz))
    show (mrg ltV (insB ltV L r) R).filter q = _
    rw [e, insB_filter q h1 h2 hr]
    cases hq : q r with
    | true => rw [List.filter_cons_of_pos hq]; rfl
    | false => rw [List.filter_cons_of_neg (by rw [hq]; simp)]; rfl
/-- Sorting, and leaving out. -/
theorem filter_ssort (q : ViewV → Bool) {S : List ViewV} (h : ∀ z ∈ S, Kn z) : (ssort ltV S).filter q = ssort ltV (S.filter q) :=
  filter_mrg q (by unfold Srt; simp) (fun z hz => by cases hz) h
theorem set_new {vs : List ViewV} {y : ViewV} (hr : rightB vs = true) (hn : (findV vs y.id).isSome = false) : ∃ A B, vs = A ++ B ∧ setV vs y = A ++ y :: B ∧ ∀ x ∈ vs, x.id ≠ y.id := by
  have hup := (right_iff.1 hr).2
  have hne : ∀ x ∈ vs, x.id ≠ y.id := fun x hx he => by
    have := (find_mem (id := y.id) (x := x) hup).2 ⟨hx, he⟩
    rw [this] at hn; cases hn
  refine ⟨vs.filter (fun x => decide (x.id < y.id)), vs.filter (fun x => decide (y.id < x.id)), ?_, setV_eq hup, hne⟩
  refine up_ext hup (List.pairwise_append.2 ⟨hup.filter _, hup.filter _, fun u hu v hv => ?_⟩) fun x => ?_
  · have h1 : u.id < y.id := by simpa using (List.mem_filter.1 hu).2
    have h2 : y.id < v.id := by simpa using (List.mem_filter.1 hv).2
    omega
  · simp only [List.mem_append, List.mem_filter, decide_eq_true_eq]
    constructor
    · intro hx
      rcases Int.lt_trichotomy x.id y.id with h | h | h
      · exact .inl ⟨hx, h⟩
      · exact absurd h (hne x hx)
      · exact .inr ⟨hx, h⟩
    · rintro (⟨h, -⟩ | ⟨h, -⟩) <;> exact h
theorem more_ids {vs : List ViewV} {own y : ViewV} (hr : rightB vs = true) (hn : (findV vs y.id).isSome = false) : (idsD 1 own (setV vs y)).filter (fun z => z != y.id) = idsD 1 own vs := by
  obtain ⟨A, B, h1, h2, h3⟩ := set_new hr hn
  unfold idsD
  rw [List.filter_map, filter_ssort _ (fun z hz => pD_kn (.inl rfl) (List.mem_filter.1 hz).2), List.filter_filter]
  congr 2
  rw [h2]
  subst h1
  have e : ∀ L : List ViewV, (∀ x ∈ L, x.id ≠ y.id) → L.filter (fun a => ((fun z => z != y.id) ∘ fun x => x.id) a && pD 1 own a) = L.filter (pD 1 own) := fun L hL => by
    refine List.filter_congr fun x hx => ?_
    have : (x.id != y.id) = true := by simpa using hL x hx
    show ((x.id != y.id) && _) = _
    rw [this, Bool.true_and]
  rw [List.filter_append, List.filter_cons_of_neg (by simp), e A fun x hx => h3 x (by simp [hx]), e B fun x hx => h3 x (by simp [hx]), List.filter_append]
theorem more_len {vs : List ViewV} {own y : ViewV} (hr : rightB vs = true) (hn : (findV vs y.id).isSome = false) (hk : Kn own) : (idsD 1 own (setV vs y)).length = (idsD 1 own vs).length + (bif ltV y own then 1 else 0) := by
  obtain ⟨A, B, h1, h2, h3⟩ := set_new hr hn
  rw [idsD_len, idsD_len, h2, h1, List.filter_append, List.filter_append, ← (pD_kno (x := y) hk).1]
  cases hp : pD 1 own y with
  | true => rw [List.filter_cons_of_pos hp, cond_true]; simp; omega
  | false => rw [List.filter_cons_of_neg (by rw [hp]; simp), cond_false]; simp
def filI (k : Int) (r : List Int) (z : Int) : List Int := bif z != k then r ++ [z] else r
theorem filI_fold {k : Int} : ∀ {l r : List Int}, l.foldl (filI k) r = r ++ l.filter (fun z => z != k)
  | [], r => by simp
  | z :: l, r => by
    rw [List.foldl_cons, filI_fold]
    unfold filI
    cases h : z != k with
    | true => rw [List.filter_cons, h, if_pos rfl, cond_true]; simp
    | false => rw [List.filter_cons, h, if_neg (by simp)]; rfl
theorem fixL {l : List Blk} (h : l.all inertB = true) (r : List Blk) : ∀ i, i < l.length → ∀ o', (l ++ r)[i]? = some o' → Fixed 0 o' := fun i hi o' ho => by
  rw [List.getElem?_append_left hi] at ho
  have := List.all_eq_true.1 h o' (List.mem_of_getElem? ho)
  exact fix11 (o := o') this [] 0 (by omega) o' rfl
theorem fix44 {o A B C : Blk} (h1 : inertB o = true) (h2 : inertB A = true) (h3 : inertB B = true) (h4 : inertB C = true) (r : List Blk) : ∀ i, i < 4 → ∀ o', (o :: A :: B :: C :: r)[i]? = some o' → Fixed 0 o' :=
  fixL (l := [o, A, B, C]) (by simp [h1, h2, h3, h4]) r
def Ends9 (e : Exit) (st : St) : Prop := e = .ret ∧ ∃ g, st = stOf 140 g [(8, .bool true)] []
theorem law9_fr (f : Bool) (o : Blk) (own y : ViewV) (vs : List ViewV) (c : Nat) (ho : inertB o = true) (hmax : vs.length ≤ 9223372036854775807) (hrow : vs = [] ∨ ∃ ty ro, o = .cells ty (vrow vs) ro) (hfl : f = false → vs = [] ∧ o = .dead) (W : Base) :
    FRwp Try.prog 140 W code9 ⟨tmsOf [vS f 0 vs.length c, hcA own, .int .i64 y.id, hcA y] 0 .leaf, heapOf [o, .dead] hp0, []⟩ Ends9 := by
  have hkk := kk_len hfl
  have T0 : TN vs (vS f 0 vs.length c) (h9 o own y) := tn_vS ho hrow hfl (by unfold h9; rw [heapOf0_get]; rfl)
  have hub : ∀ {r : Bool}, decide (80 < vs.length) = r → (some (Value.bool (decide (Int.ofNat (kk f vs.length) > 80)))) = some (.bool r) := fun {r} h => by
    rw [hkk, ← h, show decide (Int.ofNat vs.length > 80) = decide (80 < vs.length) from decide_eq_decide.2 (by simp only [Int.ofNat_eq_natCast]; omega)]
  refine FRwp.seq (Q1 := fun e st => e = .normal ∧ ∃ g, st = stOf 140 g [(0, vS f 0 vs.length c), (2, .int .i64 y.id), (5, pb 1 0), (7, pb 2 0)] [o, hB own, hB y]) (FRwp.pieceY c9_ok follows 1 _ _ _ _ (r9a f o vs.length c y own) Met.nil MetH.nil MetE.nil s9a rfl rfl (fix11 ho _) fun g => ⟨rfl, g, rfl⟩) ?_ (fun x st hne hq => absurd hq.1 hne)
  rintro st ⟨-, g, rfl⟩
  have k33 : c9 33 [vS f 0 vs.length c, .int .i64 y.id] (h9 o own y) = some (gT ((findV vs y.id).getD (zeroV 0)) (findV vs y.id).isSome, heapOf [.dead] (h9 o own y)) := by
    rw [c9_33, G33M_of T0.tq hmax]; rfl
  generalize hb : (findV vs y.id).isSome = b at *
  generalize (findV vs y.id).getD (zeroV 0) = x at *
  refine FRwp.seq (Q1 := fun e st => e = .normal ∧ ∃ g, st = stOf 140 g [(0, vS f 0 vs.length c), (2, .int .i64 y.id), (5, pb 1 0), (7, pb 2 0), (10, .bool b)] [o, hB own, hB y]) (FRwp.pieceY c9_ok follows 1 _ _ _ _ (r9b f b o vs.length c x y own g) Met.nil (MetH.cons k33 MetH.nil) MetE.nil s9b rfl rfl (fix11 ho _) fun g => ⟨rfl, g, rfl⟩) ?_ (fun x st hne hq => absurd hq.1 hne)
  rintro st ⟨-, g, rfl⟩
  have e42 : ∀ {r : Bool}, (!okV own) = r → (chO own r).1 = some (chO own r).2 := fun {r} h => by
    show some (Value.bool (chk own.n own.t own.o own.r own.d own.i != 0)) = some (.bool r)
    rw [← h]
    unfold chk okV
    cases okH own.n own.t own.o own.r own.d own.i <;> rfl
  cases hr2 : (rightB vs && oneV y) with
  | false =>
    have k27 := G27M_no y T0 hmax hr2
    have k27' : c9 27 [vS f 0 vs.length c, .int .i64 y.id, hcA y] (h9 o own y) = some (.tuple #[vS false 4 0 0, iN 1], heapOf [.dead, .dead] (h9 o own y)) := by rw [c9_27, k27]; rfl
    refine FRwp.seq (Q1 := fun e st => e = .normal ∧ ∃ g, st = stOf 140 g [(0, vS f 0 vs.length c), (2, .int .i64 y.id), (5, pb 2 0), (7, pb 3 0), (10, .bool b), (11, vS false 1 0 0), (12, iN 1)] [o, .dead, hB own, hB y]) (FRwp.pieceY c9_ok follows 2 _ _ _ _ (r9c f false b o .dead vs.length c 0 0 1 y own g) Met.nil (MetH.cons k27' MetH.nil) MetE.nil s9c rfl rfl (fixOO ho rfl _) fun g => ⟨rfl, g, rfl⟩) ?_ (fun x st hne hq => absurd hq.1 hne)
    rintro st ⟨-, g, rfl⟩
    refine FRwp.seq (Q1 := Ends9) ?_ (fun st h => by cases h.1) (fun x st hne h => h)
    cases h15 : decide (80 < vs.length) with
    | true => exact FRwp.pieceY c9_ok follows 0 _ _ _ _ (r9d1 f false b o .dead vs.length c 0 0 1 y own g) (Met.cons (hub h15) Met.nil) MetH.nil MetE.nil s9d rfl rfl (noFix _) fun g => ⟨rfl, g, rfl⟩
    | false => exact FRwp.pieceY c9_ok follows 0 _ _ _ _ (r9d2 f false b o .dead vs.length c 0 0 1 y own g) (Met.cons (hub h15) (Met.cons (bool_ok rfl) Met.nil)) MetH.nil MetE.nil s9d rfl rfl (noFix _) fun g => ⟨rfl, g, rfl⟩
  | true =>
    have hr := (Bool.and_eq_true_iff.1 hr2).1
    have hy1 := (Bool.and_eq_true_iff.1 hr2).2
    have hl64 := right_short hr
    have k27 := G27M_ok y T0 hr2
    have k27' : c9 27 [vS f 0 vs.length c, .int .i64 y.id, hcA y] (h9 o own y) = some (.tuple #[vS true 4 (setV vs y).length (setC (vS f 0 vs.length c) vs y.id), iN 0], heapOf [LtA.rowB (setV vs y), .dead] (h9 o own y)) := by rw [c9_27, k27]; rfl
    have hrs := setV_right hr hy1
    have hls := right_short hrs
    have hmore := more_ids (own := own) (y := y) hr
    have hlen := more_len (own := own) (y := y) hr
    have hfst := fun z => first_down (vs := setV vs y) (own := own) (z := z) hrs
    have hms : (idsD 1 own (setV vs y)).length ≤ (setV vs y).length := by rw [idsD_len]; exact List.length_filter_le _ _
    generalize setC (vS f 0 vs.length c) vs y.id = cm at *
    generalize hss : setV vs y = ss at *
    have iS : inertB (LtA.rowB ss) = true := LtA.row_block ss
    refine FRwp.seq (Q1 := fun e st => e = .normal ∧ ∃ g, st = stOf 140 g [(0, vS f 0 vs.length c), (2, .int .i64 y.id), (5, pb 2 0), (7, pb 3 0), (10, .bool b), (11, vS true 1 ss.length cm), (12, iN 0)] [o, LtA.rowB ss, hB own, hB y]) (FRwp.pieceY c9_ok follows 2 _ _ _ _ (r9c f true b o (LtA.rowB ss) vs.length c ss.length cm 0 y own g) Met.nil (MetH.cons k27' MetH.nil) MetE.nil s9c rfl rfl (fixOO ho iS _) fun g => ⟨rfl, g, rfl⟩) ?_ (fun x st hne hq => absurd hq.1 hne)
    rintro st ⟨-, g, rfl⟩
    let Q3 : Exit → St → Prop := fun e st => (e = .normal ∧ vs.length ≤ 80 ∧ b = false ∧ Kn own ∧ ∃ g, st = stOf 140 g [(0, vS f 0 vs.length c), (2, .int .i64 y.id), (5, pb 2 0), (7, pb 3 0), (11, rowS 1 ss.length cm)] [o, LtA.rowB ss, hB own, hB y]) ∨ Ends9 e st
    refine FRwp.seq (Q1 := Q3) ?_ ?_ ?_
    · have hub0 := hub (r := false) (decide_eq_false (by omega))
      have e0 : (some (Value.bool (Int.ofNat 0 != 0))) = some (.bool false) := rfl
      cases b with
      | true => exact FRwp.pieceY c9_ok follows 0 _ _ _ _ (r9d3 f true o (LtA.rowB ss) vs.length c ss.length cm 0 y own g) (Met.cons hub0 (Met.cons e0 Met.nil)) MetH.nil MetE.nil s9d rfl rfl (noFix _) fun g => .inr ⟨rfl, g, rfl⟩
      | false =>
        cases hok : okV own with
        | false => exact FRwp.pieceY c9_ok follows 0 _ _ _ _ (r9d4 f true o (LtA.rowB ss) vs.length c ss.length cm 0 y own g) (Met.cons hub0 (Met.cons e0 (Met.cons (e42 (by rw [hok]; rfl)) Met.nil))) MetH.nil MetE.nil s9d rfl rfl (noFix _) fun g => .inr ⟨rfl, g, rfl⟩
        | true =>
          cases hon : own.n with
          | true => exact FRwp.pieceY c9_ok follows 0 _ _ _ _ (r9d5 f true o (LtA.rowB ss) vs.length c ss.length cm 0 y own g) (Met.cons hub0 (Met.cons e0 (Met.cons (e42 (by rw [hok]; rfl)) (Met.cons (bool_ok hon) Met.nil)))) MetH.nil MetE.nil s9d rfl rfl (noFix _) fun g => .inr ⟨rfl, g, rfl⟩
          | false => exact FRwp.pieceY c9_ok follows 2 _ _ _ _ (r9d6 f o (LtA.rowB ss) vs.length c ss.length cm 0 y own g) (Met.cons hub0 (Met.cons e0 (Met.cons (e42 (by rw [hok]; rfl)) (Met.cons (bool_ok hon) Met.nil)))) MetH.nil MetE.nil s9d rfl rfl (fixOO ho iS _) fun g => .inl ⟨rfl, by omega, rfl, kn_iff.2 ⟨hon, hok⟩, g, rfl⟩
    · rintro st (⟨-, hn, hbf, hko, g, rfl⟩ | ⟨h, -⟩)
      · subst hbf
        have hmore := hmore hb
        have hlen := hlen hb hko
        have k19 : ∀ B, c9 19 [vS f 0 vs.length c, hcA own] (h9a o B own y) = some (vI (!(idsD 1 own vs).isEmpty) 5 (idsD 1 own vs).length, heapOf [ownI (idsD 1 own vs), .dead] (h9a o B own y)) := fun B => by
          rw [c9_19, G19_of own (tn_vS ho hrow hfl (by unfold h9a; rw [heapOf0_get]; rfl)) (by omega), ← vI_row]; rfl
        have TS : ∀ {hp : Hp}, hp.get 0 = some (LtA.rowB ss) → TN ss (rowS 0 ss.length cm) hp := fun h => .inr ⟨0, cm, LtA.rowB ss, rfl, h, iS, .inr ⟨34, false, rfl⟩⟩
        have k19' : ∀ A, c9 19 [rowS 0 ss.length cm, hcA own] (h9b (LtA.rowB ss) A own y) = some (vI (!(idsD 1 own ss).isEmpty) 5 (idsD 1 own ss).length, heapOf [ownI (idsD 1 own ss), .dead] (h9b (LtA.rowB ss) A own y)) := fun A => by
          rw [c9_19, G19_of own (TS (by unfold h9b; rw [heapOf0_get]; rfl)) (by omega), ← vI_row]; rfl
        have k22 : ∀ A C R yl, c9 22 [rowS 0 ss.length cm, hcA own] (h9e (LtA.rowB ss) A C R own yl) = some (nxtA own ss, heapOf [.dead] (h9e (LtA.rowB ss) A C R own yl)) := fun A C R yl => by
          rw [c9_22, G22_of own (TS (by unfold h9e; rw [heapOf0_get]; rfl)) (by omega)]
        have hnx : nxtA own ss = match idsD 1 own ss with
          | [] => .tuple #[.int .i64 0, .bool false]
          | z :: _ => .tuple #[.int .i64 z, .bool true] := rfl
        have hla : (idsD 1 own vs).length ≤ vs.length := by rw [idsD_len]; exact List.length_filter_le _ _
        generalize idsD 1 own vs = ia at *
        generalize idsD 1 own ss = ib at *
        have iA := ownI_inert ia
        have iB' := ownI_inert ib
        refine FRwp.seq (Q1 := fun e st => e = .normal ∧ ∃ g, st = stOf 140 g [(2, .int .i64 y.id), (5, pb 2 0), (7, pb 3 0), (11, rowS 0 ss.length cm), (13, vI (!ia.isEmpty) 1 ia.length)] [LtA.rowB ss, ownI ia, hB own, hB y]) (FRwp.pieceY c9_ok follows 2 _ _ _ _ (r9e f (!ia.isEmpty) o (ownI ia) (LtA.rowB ss) vs.length c ss.length cm ia.length y own g) Met.nil (MetH.cons (k19 _) MetH.nil) MetE.nil s9e rfl rfl (fixOO iS iA _) fun g => ⟨rfl, g, rfl⟩) ?_ (fun x st hne hq => absurd hq.1 hne)
        rintro st ⟨-, g, rfl⟩
        refine FRwp.seq (Q1 := fun e st => e = .normal ∧ ∃ g, st = stOf 140 g [(2, .int .i64 y.id), (5, pb 3 0), (7, pb 4 0), (11, rowS 0 ss.length cm), (13, vI (!ia.isEmpty) 1 ia.length), (14, vI (!ib.isEmpty) 2 ib.length)] [LtA.rowB ss, ownI ia, ownI ib, hB own, hB y]) (FRwp.pieceY c9_ok follows 3 _ _ _ _ (r9f (!ia.isEmpty) (!ib.isEmpty) (ownI ia) (LtA.rowB ss) (ownI ib) ss.length cm ia.length ib.length y own g) Met.nil (MetH.cons (k19' _) MetH.nil) MetE.nil s9f rfl rfl (fix33 iS iA iB' _) fun g => ⟨rfl, g, rfl⟩) ?_ (fun x st hne hq => absurd hq.1 hne)
        rintro st ⟨-, g, rfl⟩
        refine FRwp.seq (Q1 := fun e st => e = .normal ∧ ∃ g, st = stOf 140 g [(2, .int .i64 y.id), (5, pb 4 0), (7, pb 5 0), (11, rowS 0 ss.length cm), (13, vI (!ia.isEmpty) 1 ia.length), (14, vI (!ib.isEmpty) 2 ib.length), (15, nilS)] [LtA.rowB ss, ownI ia, ownI ib, .dead, hB own, hB y]) (FRwp.pieceY c9_ok follows 4 _ _ _ _ (r9g (!ia.isEmpty) (!ib.isEmpty) (ownI ia) (LtA.rowB ss) (ownI ib) ss.length cm ia.length ib.length y own g) Met.nil MetH.nil MetE.nil s9g rfl rfl (fix44 iS iA iB' rfl _) fun g => ⟨rfl, g, rfl⟩) ?_ (fun x st hne hq => absurd hq.1 hne)
        rintro st ⟨-, g, rfl⟩
        have hkb := kk_ids ib
        have hka := kk_ids ia
        have hfbe : (!ib.isEmpty) = false → ib = [] := fun h => by cases ib with
          | nil => rfl
          | cons _ _ => cases h
        obtain ⟨z, hz⟩ : ∃ z, nxtA own ss = .tuple #[.int .i64 z, .bool (!ib.isEmpty)] ∧ (ib ≠ [] → ib[0]? = some z) := by
          rw [hnx]
          cases ib with
          | nil => exact ⟨0, rfl, fun h => absurd rfl h⟩
          | cons z ib => exact ⟨z, rfl, fun _ => rfl⟩
        rw [hz.1] at k22
        generalize (!ib.isEmpty) = fb at *
        refine FRwp.seq (Q1 := fun e st => e = .normal ∧ ∃ g, st = M9 (!ia.isEmpty) fb (ownI ia) (LtA.rowB ss) (ownI ib) ss.length cm ia.length ib.length y own (ownI ia) (!ia.isEmpty) ia.length g) ?_ ?_ (fun x st hne hq => absurd hq.1 hne)
        · refine FRwp.seq (Q1 := fun e st => e = .normal ∧ ∃ g, st = L9 (!ia.isEmpty) fb (ownI ia) (LtA.rowB ss) (ownI ib) ss.length cm ia.length ib.length y own .dead false 0 0 g) (FRwp.pieceY c9_ok follows 4 _ _ _ _ (r9h (!ia.isEmpty) fb (ownI ia) (LtA.rowB ss) (ownI ib) ss.length cm ia.length ib.length y own g) Met.nil MetH.nil MetE.nil s9h rfl rfl (fix44 iS iA iB' rfl _) fun g => ⟨rfl, g, rfl⟩) ?_ (fun x st hne hq => absurd hq.1 hne)
          rintro st ⟨-, g, rfl⟩
          refine FRwp.mono (fold_loop' (vs := ib) (filI y.id) [] (fun r j g => L9 (!ia.isEmpty) fb (ownI ia) (LtA.rowB ss) (ownI ib) ss.length cm ia.length ib.length y own (ownI r) (!r.isEmpty) r.length j g) (fun r st => ∃ g, st = M9 (!ia.isEmpty) fb (ownI ia) (LtA.rowB ss) (ownI ib) ss.length cm ia.length ib.length y own (ownI r) (!r.isEmpty) r.length g) (fun r g hf => ?_) (fun j z r g hx hlt hf => ?_) g) fun e st q => by rw [filI_fold, List.nil_append, hmore] at q; exact q
          · exact FRwp.pieceY c9_ok follows 4 _ _ _ _ (r9ix (!ia.isEmpty) fb (!r.isEmpty) (ownI ia) (LtA.rowB ss) (ownI ib) (ownI r) ib.length ss.length cm ia.length ib.length r.length y own g) (Met.cons (ltO_ok (by rw [hkb]; simp)) Met.nil) MetH.nil MetE.nil s9i rfl rfl (fix44 iS iA iB' (ownI_inert r) _) fun g' => ⟨rfl, g', rfl⟩
          · have hfb : fb = true := by cases fb with
              | true => rfl
              | false => rw [hfbe rfl] at hlt; simp at hlt
            subst hfb
            have hrl : r.length ≤ j := by
              rw [← hf, filI_fold, List.nil_append]
              have := List.length_filter_le (fun z => z != y.id) (ib.take j)
              rw [List.length_take] at this
              omega
            have hibne : ownI ib = iB ib := ownI_ne (by rintro rfl; simp at hlt)
            have gB : (h9c (LtA.rowB ss) (ownI ia) (ownI ib) (ownI r) own y).get 2 = some (iB ib) := by unfold h9c; rw [heapOf0_get, hibne]; rfl
            have met : ∀ {l : List Obl}, Met l → Met (ltO j ib.length true :: ixI 2 ib.length j :: ldO (h9c (LtA.rowB ss) (ownI ia) (ownI ib) (ownI r) own y).get 3 2 j (.int .i64 z) :: l) := fun hl => Met.cons (ltO_ok (decide_eq_true hlt)) (Met.cons (ixI_ok hlt) (Met.cons (ldI_ok gB hx) hl))
            have hnx' : Met [nxt29 j] := Met.cons (wrap_up (by omega)) Met.nil
            cases hzy : (z != y.id) with
            | false =>
              have e1 : filI y.id r z = r := by unfold filI; rw [hzy]; rfl
              refine FRwp.pieceY c9_ok follows 4 _ _ _ _ (r9if (!ia.isEmpty) (!r.isEmpty) (ownI ia) (LtA.rowB ss) (ownI ib) (ownI r) j ss.length cm ia.length ib.length r.length z y own g) (met (Met.cons (bool_ok hzy) hnx')) MetH.nil MetE.nil s9i rfl rfl (fix44 iS iA iB' (ownI_inert r) _) fun g' => ⟨rfl, g', ?_⟩
              rw [e1]
            | true =>
              have e1 : filI y.id r z = r ++ [z] := by unfold filI; rw [hzy]; rfl
              have g3 : ((h9c (LtA.rowB ss) (ownI ia) (ownI ib) (ownI r) own y).push (.cells 3 [icell z] false)).get 3 = some (ownI r) := by rw [Hp.get_push, if_neg (by show (3 : Nat) ≠ 7; omega)]; unfold h9c; rw [heapOf0_get]; rfl
              have g7 : ((h9c (LtA.rowB ss) (ownI ia) (ownI ib) (ownI r) own y).push (.cells 3 [icell z] false)).get 7 = some (.cells 3 [icell z] false) := by rw [Hp.get_push, if_pos (by show (7 : Nat) = 7; rfl)]
              refine FRwp.pieceY c9_ok follows 4 _ _ _ _ (r9it (!ia.isEmpty) (!r.isEmpty) (ownI ia) (LtA.rowB ss) (ownI ib) (ownI r) j ss.length cm ia.length ib.length r.length z y own (r ++ [z]) g) (met (Met.cons (bool_ok hzy) (Met.cons (ixI_ok hlt) (Met.cons (ldI_ok gB hx) hnx')))) MetH.nil (MetE.cons (app_anyI rfl g3 g7 rfl (by omega)) MetE.nil) s9i rfl rfl
                (by rw [← ownI_ne (ne_app r z)]; exact fix44 iS iA iB' (ownI_inert _) _) fun g' => ⟨rfl, g', ?_⟩
              rw [e1, isE_app, ownI_ne (ne_app r z)]
              have e2 : (r ++ [z]).length = r.length + 1 := by simp
              rw [e2]; rfl
        rintro st ⟨-, g, rfl⟩
        refine FRwp.seq (Q1 := fun e st => e = .normal ∧ ∃ g, st = stOf 140 g [(2, .int .i64 y.id), (5, pb 4 0), (11, rowS 0 ss.length cm), (13, vI (!ia.isEmpty) 1 ia.length), (14, vI fb 2 ib.length), (15, vI (!ia.isEmpty) 3 ia.length), (17, .bool (ltV y own))] [LtA.rowB ss, ownI ia, ownI ib, ownI ia, hB own]) (FRwp.pieceY c9_ok follows 4 _ _ _ _ (r9j (!ia.isEmpty) fb (!ia.isEmpty) (ltV y own) (ownI ia) (LtA.rowB ss) (ownI ib) (ownI ia) ss.length cm ia.length ib.length ia.length y own g) (Met.cons (bool_ok rfl) Met.nil) MetH.nil MetE.nil s9j rfl rfl (fix44 iS iA iB' iA _) fun g => ⟨rfl, g, rfl⟩) ?_ (fun x st hne hq => absurd hq.1 hne)
        rintro st ⟨-, g, rfl⟩
        have k21 : c9 21 [rowS 0 ss.length cm] (h9d (LtA.rowB ss) (ownI ia) (ownI ib) (ownI ia) own) = some (.tuple #[.agg ⟨vc (lowV ss).1⟩, .bool (lowV ss).2], heapOf [.dead] (h9d (LtA.rowB ss) (ownI ia) (ownI ib) (ownI ia) own)) := by rw [c9_21, G21_of (TS (by unfold h9d; rw [heapOf0_get]; rfl)) (by omega)]; rfl
        generalize (lowV ss).1 = yl at *
        generalize (lowV ss).2 = lb at *
        refine FRwp.seq (Q1 := fun e st => e = .normal ∧ ∃ g, st = stOf 140 g [(2, .int .i64 y.id), (5, pb 4 0), (11, rowS 0 ss.length cm), (13, vI (!ia.isEmpty) 1 ia.length), (14, vI fb 2 ib.length), (15, vI (!ia.isEmpty) 3 ia.length), (17, .bool (ltV y own)), (18, pb 5 0), (19, .bool lb)] [LtA.rowB ss, ownI ia, ownI ib, ownI ia, hB own, LtA.vB yl]) (FRwp.pieceY c9_ok follows 4 _ _ _ _ (r9k (!ia.isEmpty) fb (!ia.isEmpty) (ltV y own) lb (ownI ia) (LtA.rowB ss) (ownI ib) (ownI ia) ss.length cm ia.length ib.length ia.length y own yl g) Met.nil (MetH.cons k21 MetH.nil) MetE.nil s9k rfl rfl (fix44 iS iA iB' iA _) fun g => ⟨rfl, g, rfl⟩) ?_ (fun x st hne hq => absurd hq.1 hne)
        rintro st ⟨-, g, rfl⟩
        refine FRwp.seq (Q1 := fun e st => e = .normal ∧ ∃ g, st = stOf 140 g [(2, .int .i64 y.id), (5, pb 4 0), (11, rowS 0 ss.length cm), (13, vI (!ia.isEmpty) 1 ia.length), (14, vI fb 2 ib.length), (15, vI (!ia.isEmpty) 3 ia.length), (17, .bool (ltV y own)), (18, pb 5 0), (19, .bool lb), (20, .int .i64 z), (21, .bool fb)] [LtA.rowB ss, ownI ia, ownI ib, ownI ia, hB own, LtA.vB yl]) (FRwp.pieceY c9_ok follows 4 _ _ _ _ (r9l (!ia.isEmpty) fb (!ia.isEmpty) (ltV y own) lb (ownI ia) (LtA.rowB ss) (ownI ib) (ownI ia) ss.length cm ia.length ib.length ia.length z y own yl g) Met.nil (MetH.cons (k22 _ _ _ _) MetH.nil) MetE.nil s9l rfl rfl (fix44 iS iA iB' iA _) fun g => ⟨rfl, g, rfl⟩) ?_ (fun x st hne hq => absurd hq.1 hne)
        rintro st ⟨-, g, rfl⟩
        have a3 : c9 23 [vI (!ia.isEmpty) 3 ia.length, vI (!ia.isEmpty) 1 ia.length] (h9e (LtA.rowB ss) (ownI ia) (ownI ib) (ownI ia) own yl) = some (.bool true, heapOf [.dead] (h9e (LtA.rowB ss) (ownI ia) (ownI ib) (ownI ia) own yl)) := by
          rw [c9_23, vI_row, vI_row]
          exact gSI_of (by omega) (by unfold h9e; rw [heapOf0_get]; rfl) (by unfold h9e; rw [heapOf0_get]; rfl) (by omega)
        have hnxa : (nxt29 (kk (!ia.isEmpty) ia.length)).1 = some (nxt29 (kk (!ia.isEmpty) ia.length)).2 := wrap_up (by rw [hka]; omega)
        cases hd : ltV y own with
        | true =>
          rw [hd] at hlen
          have hibne : ib ≠ [] := by rintro rfl; simp at hlen
          have hfb : fb = true := by cases fb with
            | true => rfl
            | false => exact absurd (hfbe rfl) hibne
          subst hfb
          obtain ⟨q1, q2⟩ := hfst z (hz.2 hibne)
          subst q1
          exact FRwp.pieceZ c9_ok follows 0 _ _ _ _ (r9mt (!ia.isEmpty) (!ia.isEmpty) (z == y.id) (ownI ia) (LtA.rowB ss) (ownI ib) (ownI ia) ss.length cm ia.length ib.length ia.length z y own yl g) (Met.cons hnxa (Met.cons (eqO_ok (by rw [hka, hlen]; simp)) (Met.cons (eqO_ok (by rw [hka, hlen]; simp)) (Met.cons (bool_ok rfl) (Met.cons (bool_ok (by rw [q2])) (Met.cons (bool_ok (by simp)) Met.nil)))))) (MetH.cons a3 MetH.nil) MetE.nil s9m rfl rfl (noFix _) fun g => ⟨rfl, g, rfl⟩
        | false =>
          rw [hd] at hlen
          exact FRwp.pieceZ c9_ok follows 0 _ _ _ _ (r9mf (!ia.isEmpty) fb (!ia.isEmpty) lb (ownI ia) (LtA.rowB ss) (ownI ib) (ownI ia) ss.length cm ia.length ib.length ia.length z y own yl g) (Met.cons hnxa (Met.cons (eqO_ok (by rw [hkb, hka, hlen]; simp)) (Met.cons (eqO_ok (by rw [hkb, hka, hlen]; simp)) Met.nil))) (MetH.cons a3 MetH.nil) MetE.nil s9m rfl rfl (noFix _) fun g => ⟨rfl, g, rfl⟩
      · cases h
    · rintro e st hne (⟨h, -⟩ | h)
      · exact absurd h hne
      · exact h
end Go.Proofs.Ytiogdklmhpllfaa.LtL
namespace Go.Proofs.Ytiogdklmhpllfaa.LtL
open Go Go.Proofs Go.Proofs.Ytiogdklmhpllfaa.AI Go.RowKit Go.ChangeShapes Go.Proofs.Ytiogdklmhpllfaa.LtA

theorem ends9 {e : Exit} {st : St} (h : Ends9 e st) : (e = .normal ∨ e = .ret) ∧ st.df = [] ∧ retVal Try.prog Try.f9 st = some (.bool true) := by
  obtain ⟨rfl, g, rfl⟩ := h
  exact ⟨.inr rfl, rfl, q9 _ _ _⟩
theorem walk9 {H : Type} {enc : TypeId × Value → H} (W : World) (base : Nat) (args : Array Value) (ds : List (DataW H)) (p : List MemPlace) (hsz : args.size = 4) (hval : ∀ (j : Nat) t v, Try.f9.params[j]? = some t → args[j]? = some v → Value.okWide Try.prog W .any base t v)
    (hA : DataW.TrodAll enc Try.prog W 0 (fun _ => true) true [29, 23, 3, 23] args.toList ds p) : Calls Try.prog 9 args W fun e W' => e = .returned (.bool true) ∧ Below W.heap.size W W' := by
  obtain ⟨vl, vo, va, vh, rfl⟩ : ∃ vl vo va vh, args = #[vl, vo, va, vh] := by
    obtain ⟨l⟩ := args
    match l, hsz with
    | [a, b, c, d], _ => exact ⟨a, b, c, d, rfl⟩
  obtain ⟨own, ho, rfl⟩ := open_height' 0 (hval 1 23 vo (by kernel_rfl) rfl)
  obtain ⟨a, rfl, _⟩ := valw_int Try.underlying3 (hval 2 3 va (by kernel_rfl) rfl)
  obtain ⟨y, hy, rfl⟩ := open_height' a (hval 3 23 vh (by kernel_rfl) rfl)
  subst hy
  obtain ⟨v1, vs1, d1, ds1, p1, q1, e1, _, _, hT, _⟩ := trodAll_cons hA
  cases e1
  obtain ⟨f, o, vs, m, hi, sim, ro, rv, hmax, hrow, hfl⟩ := row_argF (hval 0 29 vl (by kernel_rfl) rfl) hT
  refine law_end Try.func9 body9 ntmps9 W (args0 := [vS f 0 vs.length 2, hcA own, .int .i64 y.id, hcA y]) (by simp) (ok2_heap o .dead) sim ro (.cons rv (.cons (hcA_rel own) (.cons (.flat rfl) (.cons (hcA_rel y) .nil)))) fun W => ?_
  exact FRwp.mono (law9_fr f o own y vs 2 hi hmax hrow hfl W) fun e st h => ends9 h
theorem params9 : ∀ t ∈ Try.f9.params.toList, Try.prog.readableRec t = true ∧ t < Try.prog.types.size := by
  have h : Try.f9.params.toList.all (fun t => Try.prog.readableRec t && decide (t < Try.prog.types.size)) = true := by kernel_rfl
  intro t ht
  have := List.all_eq_true.1 h t ht
  simpa using this
theorem lifted9 (os : Os) (started : os.Started) (H : Type) (enc : TypeId × Value → H) :
    ReturnsInHanded {} Try.checked os 9 .any (Rows.linksMoreSpec.pre6 enc Try.prog Try.f9 Rows.linksMoreRow.domain false) (Rows.linksMoreSpec.post enc Try.prog Try.f9 false true false false) :=
  law_lifted (C := Try.checked) (tb := 4) started own (by kernel_rfl) Try.func9 laid params9 rfl (by kernel_rfl) Try.underlying4
    (fun ds hl => by
      match ds, hl with
      | [_, _, _, _], _ => rfl)
    (ChangeSpec.witness6 (enc := enc) (C := Try.checked) false ⟨#[], #[nilS, hcA (zeroV 0), .int .i64 0, hcA (zeroV 0)], []⟩ 8 (by kernel_rfl) (by kernel_rfl) (by kernel_rfl) (by kernel_rfl))
    (fun W base args ds p hsz hval hA => walk9 W base args ds p hsz hval hA)

/-- The statement. -/
theorem linksMore_proved : Rows.LinksMoreSaid :=
  OpenClaim.holds_of_wide 9 Try.f9 rfl rfl rfl rfl rfl rfl rfl ⟨rfl, rfl, rfl, rfl, rfl⟩ rfl rfl rfl rfl rfl (by kernel_rfl) Try.func9 (by kernel_rfl)
    (of_decide_eq_true (by kernel_rfl)) (by unfold Func.isWrapper; first | (rw [if_pos (by decide +kernel)]; kernel_rfl) | (rw [if_neg (by decide +kernel)]; exact ⟨rfl, rfl⟩))
    (fun os started H enc _ => lifted9 os started H enc)
#print axioms linksMore_proved
end Go.Proofs.Ytiogdklmhpllfaa.LtL
