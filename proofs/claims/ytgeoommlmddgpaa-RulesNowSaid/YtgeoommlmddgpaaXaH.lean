/- links.Levels: its runs. -/
import Derived.Test.YtgeoommlmddgpaaXaG
set_option linter.unusedVariables false
set_option linter.unusedSimpArgs false
set_option maxRecDepth 100000
namespace Go.Proofs.Ytgeoommlmddgpaa.LtL
open Go Go.Proofs Go.Proofs.Ytgeoommlmddgpaa.AI Go.RowKit Go.Proofs.Ytgeoommlmddgpaa.Sort Go.Proofs.Ytgeoommlmddgpaa.LtA

def lvV (x : ViewV) : Lev := (lev0 x.n x.t x.o x.r x.d x.i, lev1 x.n x.t x.o x.r x.d x.i, lev2 x.n x.t x.o x.r x.d x.i)
def newL (b k : Nat) : Value := .slice (some ⟨b, 0, none⟩) k 10
def vLv (f : Bool) (b k : Nat) : Value := bif f then newL b k else nilS
noncomputable def E21 : Ext := extG (extH Try.prog [(39, g51), (26, g31)]) [(44, gSF), (45, gCo)]
theorem E21_ok : ExtOk Try.prog E21 := extG_ok (extH_ok (.cons hk51 (.cons hk31 .nil))) (.cons hkSF (.cons hkCo .nil))
noncomputable def E21n : Ext := extH Try.prog []
theorem E21n_ok : ExtOk Try.prog E21n := extH_ok .nil
noncomputable def fb21 : Code := (Try.f21.body).getD .skip
theorem ntmps21 : Try.f21.ntmps = 26 := by kernel_rfl
theorem q21 (v : Value) (O : List Blk) (g : Nat → Value) : retVal Try.prog Try.f21 (stOf 26 g [(2, v)] O) = some v := by kernel_rfl
noncomputable def k21a : Code := sL (fb21)
theorem sk21a : codeSafe Try.prog 26 k21a = true := by kernel_rfl
noncomputable def k21b : Code := sL (sR (fb21))
theorem sk21b : codeSafe Try.prog 26 k21b = true := by kernel_rfl
noncomputable def k21c : Code := sL (sL (sR (sR (fb21))))
theorem sk21c : codeSafe Try.prog 26 k21c = true := by kernel_rfl
noncomputable def k21L : Code := unL (unB (sR (sL (sR (sR (fb21))))))
theorem sk21L : codeSafe Try.prog 26 k21L = true := by kernel_rfl
noncomputable def k21z : Code := sR (sR (sR (fb21)))
theorem sk21z : codeSafe Try.prog 26 k21z = true := by kernel_rfl
noncomputable abbrev code21 : Code := .seq k21a (.seq k21b (.seq (.seq k21c (.block 0 (.loop k21L))) k21z))
theorem body21 : Try.f21.body = some code21 := by kernel_rfl
section
theorem lvA_0 (o : Blk) (n c : Nat) : (execN Try.prog (aCall Try.prog E21 60) (callN Try.prog E21 60) 60 k21a ⟨tmsOf [rowS 0 n c] 0 .leaf, heapOf [o, .dead] hp0, []⟩ (acc0 [])).map (fun y => (look2 1 [0] [0] (y.1, y.2.1), y.2.2.q, y.2.2.r, y.2.2.x)) =
    some ((.normal, [o], [(0, vS true 0 n c)], true), [], [], []) := by kernel_rfl
end
section
theorem lvAn_0  : (execN Try.prog (aCall Try.prog E21 60) (callN Try.prog E21 60) 60 k21a ⟨tmsOf [nilS] 0 .leaf, heapOf [.dead] hp0, []⟩ (acc0 [])).map (fun y => (look2 1 [0] [0] (y.1, y.2.1), y.2.2.q, y.2.2.r, y.2.2.x)) =
    some ((.normal, [.dead], [(0, nilS)], true), [], [], []) := by kernel_rfl
end
section
theorem lvB_0 (f : Bool) (o : Blk) (n c : Nat) (g : Nat → Value) : (execN Try.prog (aCall Try.prog E21 60) (callN Try.prog E21 60) 60 k21b (stOf 26 g [(0, vS f 0 n c)] [o]) (acc0 [])).map (fun y => (look2 2 [0, 1] [0, 3] (y.1, y.2.1), y.2.2.q, y.2.2.r, y.2.2.x)) =
    some ((.normal, [o, .dead], [(0, vS f 0 n c), (3, nilS)], true), [], [], []) := by cases f <;> kernel_rfl
end
section
theorem lvC_0 (f : Bool) (o : Blk) (n c : Nat) (g : Nat → Value) : (execN Try.prog (aCall Try.prog E21 60) (callN Try.prog E21 60) 60 k21c (stOf 26 g [(0, vS f 0 n c), (3, nilS)] [o, .dead]) (acc0 [])).map (fun y => (look2 2 [0, 1] [3, 6, 7, 8] (y.1, y.2.1), y.2.2.q, y.2.2.r, y.2.2.x)) =
    some ((.normal, [o, .dead], [(3, nilS), (6, vS f 0 n c), (7, iN (kk f n)), (8, iN 0)], true), [], [], []) := by cases f <;> kernel_rfl
end
theorem lvX_0 (f fu : Bool) (o U : Blk) (n c u i : Nat) (x : ViewV) (zs : List Lev) (g : Nat → Value) : (execN Try.prog (aCall Try.prog E21 60) (callN Try.prog E21 60) 60 k21L (stOf 26 g [(3, vLv fu 1 u), (6, vS f 0 n c), (7, iN (kk f n)), (8, iN i)] [o, U]) (acc0 [(0, .v (.bool false))])).map (fun y => (look2 1 [1] [3] (y.1, y.2.1), y.2.2.q, y.2.2.r, y.2.2.x)) =
    some ((.exit 0, [U], [(3, vLv fu 0 u)], true), [(some (.bool (decide ((Int.ofNat i) < (Int.ofNat (kk f n))))), .bool false)], [], []) := by cases f <;> cases fu <;> kernel_rfl
theorem lvS_0 (f fu : Bool) (o U : Blk) (n c u i : Nat) (x : ViewV) (zs : List Lev) (g : Nat → Value) : (execN Try.prog (aCall Try.prog E21 60) (callN Try.prog E21 60) 60 k21L (stOf 26 g [(3, vLv fu 1 u), (6, vS true 0 n c), (7, iN (kk true n)), (8, iN i)] [o, U]) (acc0 [(15, .v (iN (i + 1))), (13, .e (newL 5 (u + 1)) (effF fu 1 (lB zs))), (7, .v (.bool true)), (2, .v (.agg ⟨vc x⟩)), (1, .v (pb 0 (i * 7))), (0, .v (.bool true))])).map (fun y => (look2 2 [0, 5] [3, 6, 7, 8] (y.1, y.2.1), y.2.2.q, y.2.2.r, y.2.2.x)) =
    some ((.normal, [o, lB zs], [(3, .slice (some ⟨1, 0, none⟩) (u + 1) 10), (6, vS true 0 n c), (7, iN (kk true n)), (8, iN (i + 1))], true), [(some (.int .i64 (wrapF .i64 (Int.ofNat i + Int.ofNat 1))), iN (i + 1)), (some (.bool (toldV x)), .bool true), (aLoad Try.prog (heapOf [o, U, .dead] hp0).get 45 (pb 0 (i * 7)), .agg ⟨vc x⟩), (fstV ((aIndexAddr Try.prog 22 (vS true 0 n c) (iN i)).map fun v => (v, none)), pb 0 (i * 7)), (some (.bool (decide ((Int.ofNat i) < (Int.ofNat (kk true n))))), .bool true)], [], [(aAppend Try.prog (heapOf [o, U, .dead, .cells 45 [.int .i64 x.id, .bool x.n, .int .i64 x.t, .int .i64 x.o, .int .i64 x.r, .int .i64 x.d, .int .i64 x.i] false, .cells 42 [.int .i64 ((lvV x).1), .int .i64 ((lvV x).2.1), .int .i64 ((lvV x).2.2)] false] hp0).get 5 [34, 34] [vLv fu 1 u, newL 4 1], (newL 5 (u + 1), effF fu 1 (lB zs)))]) := by cases fu <;> kernel_rfl
theorem lvS_1 (f fu : Bool) (o U : Blk) (n c u i : Nat) (x : ViewV) (zs : List Lev) (g : Nat → Value) : (execN Try.prog (aCall Try.prog E21 60) (callN Try.prog E21 60) 60 k21L (stOf 26 g [(3, vLv fu 1 u), (6, vS true 0 n c), (7, iN (kk true n)), (8, iN i)] [o, U]) (acc0 [(8, .v (iN (i + 1))), (7, .v (.bool false)), (2, .v (.agg ⟨vc x⟩)), (1, .v (pb 0 (i * 7))), (0, .v (.bool true))])).map (fun y => (look2 2 [0, 1] [3, 6, 7, 8] (y.1, y.2.1), y.2.2.q, y.2.2.r, y.2.2.x)) =
    some ((.normal, [o, U], [(3, vLv fu 1 u), (6, vS true 0 n c), (7, iN (kk true n)), (8, iN (i + 1))], true), [(some (.int .i64 (wrapF .i64 (Int.ofNat i + Int.ofNat 1))), iN (i + 1)), (some (.bool (toldV x)), .bool false), (aLoad Try.prog (heapOf [o, U, .dead] hp0).get 45 (pb 0 (i * 7)), .agg ⟨vc x⟩), (fstV ((aIndexAddr Try.prog 22 (vS true 0 n c) (iN i)).map fun v => (v, none)), pb 0 (i * 7)), (some (.bool (decide ((Int.ofNat i) < (Int.ofNat (kk true n))))), .bool true)], [], []) := by cases fu <;> kernel_rfl
section
theorem lvZ_0 (us ss dd : List Lev) (k d : Nat) (g : Nat → Value) : (execN Try.prog (aCall Try.prog E21 60) (callN Try.prog E21 60) 60 k21z (stOf 26 g [(3, .slice (some ⟨0, 0, none⟩) k 10)] [lB us]) (acc0 [(3, .e (.slice (some ⟨2, 0, none⟩) d 11) [.put 0 (.dead), .push (lB dd), .push (.dead)]), (1, .e (.tuple #[]) [.put 0 (lB ss)])])).map (fun y => (look2 1 [2] [2] (y.1, y.2.1), y.2.2.q, y.2.2.r, y.2.2.x)) =
    some ((.ret, [lB dd], [(2, .slice (some ⟨0, 0, none⟩) d 11)], true), [], [(gCo [.slice (some ⟨0, 0, none⟩) k 10] (heapOf [lB ss, .dead] hp0), (.slice (some ⟨2, 0, none⟩) d 11, (heapOf [lB ss, .dead] hp0).eff [.put 0 (.dead), .push (lB dd), .push (.dead)])), (gSF [.slice (some ⟨0, 0, none⟩) k 10, .func (.func 25) #[] #[]] (heapOf [lB us, .dead] hp0), (.tuple #[], (heapOf [lB us, .dead] hp0).eff [.put 0 (lB ss)]))], []) := by kernel_rfl
end
section
theorem lvZn_0 (g : Nat → Value) : (execN Try.prog (aCall Try.prog E21n 60) (callN Try.prog E21n 60) 60 k21z (stOf 26 g [(3, nilS)] [.dead]) (acc0 [])).map (fun y => (look2 0 [] [2] (y.1, y.2.1), y.2.2.q, y.2.2.r, y.2.2.x)) =
    some ((.ret, [], [(2, nilS)], true), [], [], []) := by kernel_rfl
end
end Go.Proofs.Ytgeoommlmddgpaa.LtL
namespace Go.Proofs.Ytgeoommlmddgpaa.LtL
open Go Go.Proofs Go.Proofs.Ytgeoommlmddgpaa.AI Go.RowKit Go.Proofs.Ytgeoommlmddgpaa.Sort Go.Proofs.Ytgeoommlmddgpaa.LtA

def ownL (ls : List Lev) : Blk := match ls with
  | [] => .dead
  | l :: ls => lB (l :: ls)
theorem ownL_ne {ls : List Lev} (h : ls ≠ []) : ownL ls = lB ls := by cases ls with
  | nil => exact absurd rfl h
  | cons => rfl
theorem ownL_inert (ls : List Lev) : inertB (ownL ls) = true := by cases ls with
  | nil => rfl
  | cons => exact lB_inert _
def rowLv (ls : List Lev) (b : Nat) : Value := match ls with
  | [] => nilS
  | l :: ls => .slice (some ⟨b, 0, none⟩) (ls.length + 1) 11
def rowLO (ls : List Lev) : List Blk := match ls with
  | [] => []
  | l :: ls => [lB (l :: ls)]
theorem rowL_out (ls : List Lev) : rowLO ls = [] ∨ ∃ B, rowLO ls = [B] ∧ inertB B = true ∧ rwB B = true := by
  cases ls with
  | nil => exact .inl rfl
  | cons i ids => exact .inr ⟨lB (i :: ids), rfl, lB_inert _, rfl⟩
theorem rowL_ok (ls : List Lev) : ok3 (rowLv ls 0) = true := by cases ls <;> rfl
theorem underlyingL : Try.prog.underlying 34 = some (.slice 42) := by kernel_rfl
theorem infoL : ∃ i, Try.prog.info? 42 = some i ∧ i.size = 3 ∧ i.bytes = 24 := by
  have h : (Try.prog.info? 42).map (fun i => (i.size, i.bytes)) = some (3, 24) := by kernel_rfl
  obtain ⟨i, h1, h2⟩ := Option.map_eq_some_iff.1 h
  simp only [Prod.mk.injEq] at h2
  exact ⟨i, h1, h2.1, h2.2⟩
theorem zeroL : ∃ z, tzero Try.prog 42 = some z ∧ z.length = 3 := by
  have h : (tzero Try.prog 42).map (fun z => z.length) = some 3 := by kernel_rfl
  obtain ⟨z, h1, h2⟩ := Option.map_eq_some_iff.1 h
  exact ⟨z, h1, h2⟩
theorem app_lev {get : Nat → Option Blk} {sz b b2 k : Nat} {ls : List Lev} {x : Lev} {f : Bool} (hf : f = !ls.isEmpty) (hb : get b = some (ownL ls)) (hb2 : get b2 = some (.cells 42 (lc x) false)) (hk : k = ls.length) (hl : k < 2000000) :
    aAppend Try.prog get sz [34, 34] [vLv f b k, newL b2 1] = some (newL sz (k + 1), effF f b (lB (ls ++ [x]))) := by
  subst hf hk
  obtain ⟨i, hi, h1, h8⟩ := infoL
  obtain ⟨z, hz, hzl⟩ := zeroL
  have hsrc : aSrc Try.prog get 3 z (.slice 42) (newL b2 1) = some (lc x, 1) := by
    unfold aSrc newL
    simp only [srcLen, srcCells, hb2]
    rw [if_neg (by omega), if_neg (by omega), getR_all (n := 1 * 3) rfl]
    rfl
  cases ls with
  | nil =>
    show aAppend Try.prog get sz [34, 34] [nilS, newL b2 1] = some (newL sz 1, [.push (lB [x])])
    unfold aAppend
    simp only [underlyingL, hi, hz, h1, h8, hzl]
    rw [if_neg (by decide)]
    simp only [hsrc]
    rw [if_neg (by simp [isOne, lc])]
    simp only [nilS]
    rw [if_neg (by omega), if_neg (by omega)]
    rfl
  | cons w ws =>
    have hun : w :: ws ≠ [] := by simp
    rw [ownL_ne hun] at hb
    generalize w :: ws = ls at *
    rw [isE_false hun]
    show aAppend Try.prog get sz [34, 34] [newL b ls.length, newL b2 1] = some (newL sz (ls.length + 1), [.put b .dead, .push (lB (ls ++ [x]))])
    unfold lB at hb
    have hg : getR (lrow ls) 0 (ls.length * 3) = some (lrow ls) := getR_all (lrow_len ls)
    unfold aAppend
    simp only [underlyingL, hi, hz, h1, h8, hzl]
    rw [if_neg (by decide)]
    simp only [hsrc]
    rw [if_neg (by simp [isOne, lc])]
    simp only [newL]
    rw [if_neg (by omega), if_neg (by omega)]
    simp only [hb, hg]
    rw [if_neg (by omega), if_pos (by decide), if_neg (by rw [lrow_len]; omega)]
    have e : lrow (ls ++ [x]) = lrow ls ++ lc x := by unfold lrow; rw [List.flatMap_append]; simp
    unfold lB
    rw [e]
/-- The levels of the told views, in their order. -/
def levsV (vs : List ViewV) : List Lev := (vs.filter toldV).map lvV
/-- The levels: sorted, each once. -/
def dlev (ls : List Lev) : List Lev := match ls with
  | [] => []
  | l :: ls => ded (sortL (l :: ls))
def levU (us : List Lev) (x : ViewV) : List Lev := bif toldV x then us ++ [lvV x] else us
theorem lev_fold : ∀ {vs : List ViewV} {us : List Lev}, vs.foldl levU us = us ++ levsV vs
  | [], us => by simp [levsV]
  | v :: vs, us => by
    rw [List.foldl_cons, lev_fold]
    unfold levU levsV
    cases h : toldV v with
    | true => rw [List.filter_cons_of_pos h]; simp
    | false => rw [List.filter_cons_of_neg (by rw [h]; simp)]; rfl
theorem levsV_len (vs : List ViewV) : (levsV vs).length ≤ vs.length := by unfold levsV; rw [List.length_map]; exact List.length_filter_le ..
theorem ded_ne {ls : List Lev} (h : ls ≠ []) : ded ls ≠ [] := fun e => by
  obtain ⟨y, hy⟩ : ∃ y, ls.getLast? = some y := ⟨_, List.getLast?_eq_some_getLast h⟩
  have := ded_last hy
  rw [e] at this; cases this
def levR (vs : List ViewV) : Ans := fun rest => match rest with
  | [] => some (rowLv (dlev (levsV vs)) 0, rowLO (dlev (levsV vs)))
  | _ => none
theorem finL {q : ∀ (v : Value) (O : List Blk) (g : Nat → Value), retVal Try.prog Try.f21 (stOf 26 g [(2, v)] O) = some v} {ls : List Lev} (h : ls ≠ []) (g : Nat → Value) : FinR Try.f21 (rowLv ls 0) (rowLO ls) .ret (stOf 26 g [(2, .slice (some ⟨0, 0, none⟩) ls.length 11)] [lB ls]) := by
  cases ls with
  | nil => exact absurd rfl h
  | cons l ls => exact ⟨.inr rfl, rfl, q _ _ g, fun B hB => by cases hB; show (heapOf _ hp0).get 0 = _; rw [heapOf0_get]; rfl⟩
theorem run21 (vs : List ViewV) (hn : vs.length < 1000000) : ∀ rest v0 O, levR vs rest = some (v0, O) → RowRun Try.f21 code21 26 vs rest v0 O := fun rest v0 O h => by
  unfold levR at h
  split at h
  case h_2 => cases h
  cases h
  refine ⟨rowL_out _, rowL_ok _, (by intro r hr; cases hr), by simp, fun f o c W ho hrow hfl => ?_⟩
  have hkk := kk_len hfl
  have fx2 : ∀ us : List Lev, ∀ r : List Blk, ∀ i, i < 2 → ∀ o', (o :: ownL us :: r)[i]? = some o' → Fixed 0 o' := fun us => fixOO ho (ownL_inert us)
  refine FRwp.seq (Q1 := fun e st => e = .normal ∧ ∃ g, st = stOf 26 g [(0, vS f 0 vs.length c)] [o]) ?_ ?_ (fun x st hne hq => absurd hq.1 hne)
  · cases f with
    | true => exact FRwp.pieceN E21_ok follows 60 1 _ _ _ _ (lvA_0 o vs.length c) Met.nil MetH.nil MetE.nil sk21a rfl rfl (fix11 ho _) fun g => ⟨rfl, g, rfl⟩
    | false =>
      obtain ⟨rfl, rfl⟩ := hfl rfl
      exact FRwp.pieceN E21_ok follows 60 1 _ _ _ _ lvAn_0 Met.nil MetH.nil MetE.nil sk21a rfl rfl (fix11 rfl _) fun g => ⟨rfl, g, rfl⟩
  rintro st ⟨-, g, rfl⟩
  refine FRwp.seq (Q1 := fun e st => e = .normal ∧ ∃ g, st = stOf 26 g [(0, vS f 0 vs.length c), (3, nilS)] [o, .dead]) (FRwp.pieceN E21_ok follows 60 2 _ _ _ _ (lvB_0 f o vs.length c g) Met.nil MetH.nil MetE.nil sk21b rfl rfl (fx2 [] _) fun g => ⟨rfl, g, rfl⟩) ?_ (fun x st hne hq => absurd hq.1 hne)
  rintro st ⟨-, g, rfl⟩
  let I : List Lev → Nat → (Nat → Value) → St := fun us i g => stOf 26 g [(3, vLv (!us.isEmpty) 1 us.length), (6, vS f 0 vs.length c), (7, iN (kk f vs.length)), (8, iN i)] [o, ownL us]
  refine FRwp.seq (Q1 := fun e st => e = .normal ∧ ∃ g, st = stOf 26 g [(3, vLv (!(levsV vs).isEmpty) 0 (levsV vs).length)] [ownL (levsV vs)]) ?_ ?_ (fun x st hne hq => absurd hq.1 hne)
  · refine FRwp.seq (Q1 := fun e st => e = .normal ∧ ∃ g, st = I [] 0 g) (FRwp.pieceN E21_ok follows 60 2 _ _ _ _ (lvC_0 f o vs.length c g) Met.nil MetH.nil MetE.nil sk21c rfl rfl (fx2 [] _) fun g => ⟨rfl, g, rfl⟩) ?_ (fun x st hne hq => absurd hq.1 hne)
    rintro st ⟨-, g, rfl⟩
    refine FRwp.mono (fold_loop' levU [] I (fun us st => ∃ g, st = stOf 26 g [(3, vLv (!us.isEmpty) 0 us.length)] [ownL us]) (fun us g hf => ?_) (fun i x us g hx hlt hf => ?_) g) fun e st q => by rw [lev_fold] at q; exact q
    · exact FRwp.pieceN E21_ok follows 60 1 _ _ _ _ (lvX_0 f (!us.isEmpty) o (ownL us) vs.length c us.length vs.length ⟨0, false, 0, 0, 0, 0, 0⟩ [] g) (Met.cons (bool_ok (by rw [hkk]; simp)) Met.nil) MetH.nil MetE.nil sk21L rfl rfl (fix11 (ownL_inert us) []) fun g' => ⟨rfl, g', rfl⟩
    · have hft : f = true := by cases f with
        | true => rfl
        | false => rw [(hfl rfl).1] at hlt; simp at hlt
      subst hft
      have hr : ∃ ty ro, o = .cells ty (vrow vs) ro := by
        rcases hrow with h | h
        · rw [h] at hlt; simp at hlt
        · exact h
      have hul : us.length ≤ i := by
        rw [← hf, lev_fold]
        have := levsV_len (vs.take i)
        rw [List.length_take] at this
        simp; omega
      have b0 : RowAt (heapOf [o, ownL us, .dead] hp0) 0 vs := rowAt0 hr
      cases ht : toldV x with
      | false =>
        refine FRwp.pieceN E21_ok follows 60 2 _ _ _ _ (lvS_1 true (!us.isEmpty) o (ownL us) vs.length c us.length i x [] g)
          (Met.cons (wrap_up (by omega)) (Met.cons (congrArg (fun b => some (Value.bool b)) ht) (Met.cons (LtA.vload_ok b0 hx) (Met.cons (LtA.vidx_ok hlt) (Met.cons (bool_ok (decide_eq_true (by show ((i : Nat) : Int) < ((vs.length : Nat) : Int); omega))) Met.nil))))) MetH.nil MetE.nil sk21L rfl rfl (fx2 us _) fun g' => ⟨rfl, g', ?_⟩
        unfold levU; rw [ht]; rfl
      | true =>
        have happ := app_lev (get := (heapOf [o, ownL us, .dead, .cells 45 [.int .i64 x.id, .bool x.n, .int .i64 x.t, .int .i64 x.o, .int .i64 x.r, .int .i64 x.d, .int .i64 x.i] false, .cells 42 [.int .i64 ((lvV x).1), .int .i64 ((lvV x).2.1), .int .i64 ((lvV x).2.2)] false] hp0).get) (sz := 5) (b := 1) (b2 := 4) (ls := us) (x := lvV x) rfl (by rw [heapOf0_get]; rfl) (by rw [heapOf0_get]; rfl) rfl (by omega)
        refine FRwp.pieceN E21_ok follows 60 2 _ _ _ _ (lvS_0 true (!us.isEmpty) o (ownL us) vs.length c us.length i x (us ++ [lvV x]) g)
          (Met.cons (wrap_up (by omega)) (Met.cons (congrArg (fun b => some (Value.bool b)) ht) (Met.cons (LtA.vload_ok b0 hx) (Met.cons (LtA.vidx_ok hlt) (Met.cons (bool_ok (decide_eq_true (by show ((i : Nat) : Int) < ((vs.length : Nat) : Int); omega))) Met.nil))))) MetH.nil (MetE.cons happ MetE.nil) sk21L rfl rfl (by rw [← ownL_ne (by simp : us ++ [lvV x] ≠ [])]; exact fx2 _ _) fun g' => ⟨rfl, g', ?_⟩
        unfold levU
        rw [ht, cond_true]
        show _ = stOf 26 g' [(3, vLv (!(us ++ [lvV x]).isEmpty) 1 (us ++ [lvV x]).length), _, _, _] [o, ownL (us ++ [lvV x])]
        rw [isE_app, ownL_ne (by simp : us ++ [lvV x] ≠ [])]
        have e1 : (us ++ [lvV x]).length = us.length + 1 := by simp
        rw [e1]; rfl
  rintro st ⟨-, g, rfl⟩
  have hl := levsV_len vs
  generalize levsV vs = us at *
  cases us with
  | nil => exact FRwp.pieceN E21n_ok follows 60 0 _ _ _ _ (lvZn_0 g) Met.nil MetH.nil MetE.nil sk21z rfl rfl (noFix _) fun g => ⟨.inr rfl, rfl, q21 _ _ g, (fun B hB => by cases hB)⟩
  | cons w ws =>
    show FRwp Try.prog 26 W k21z _ (FinR Try.f21 (rowLv (ded (sortL (w :: ws))) 0) (rowLO (ded (sortL (w :: ws)))))
    have hun : w :: ws ≠ [] := by simp
    have hpos : 0 < (w :: ws).length := by simp
    generalize w :: ws = us at *
    rw [ownL_ne hun, isE_false hun]
    have hsl := sortL_len us
    have hsn : sortL us ≠ [] := fun e => by rw [e] at hsl; simp at hsl; omega
    refine FRwp.pieceN E21_ok follows 60 1 _ _ _ _ (lvZ_0 us (sortL us) (ded (sortL us)) us.length (ded (sortL us)).length g) Met.nil
      (MetH.cons (gCo_of (ls := sortL us) rfl (by omega) (by omega) (by omega)) (MetH.cons (gSF_of (ls := us) rfl rfl (by omega) (by omega)) MetH.nil)) MetE.nil sk21z rfl rfl (fix11 (lB_inert _) []) fun g => finL (q := q21) (ded_ne hsn) g
noncomputable def GLv : HeapFn := padF (toldR levR)
theorem hkLv : CallGoal Try.prog 21 GLv := pad_goal (toldR_goal Try.func21 body21 (by kernel_rfl) ntmps21 fun vs hn => run21 vs hn)
theorem GLv_of {vs : List ViewV} {s : Value} {hp : Hp} (h : TN vs s hp) (hn : vs.length < 1000000) : GLv [s] hp = some (rowLv (dlev (levsV vs)) hp.sz, heapOf [ownL (dlev (levsV vs)), .dead] hp) := by
  unfold GLv
  have e := toldR_of (A := levR) (rest := []) (v0 := rowLv (dlev (levsV vs)) 0) (O := rowLO (dlev (levsV vs))) h hn rfl
  generalize dlev (levsV vs) = ls at *
  cases ls with
  | nil => exact pad_one e
  | cons l ls =>
    refine pad_two (e.trans ?_)
    show some (sh3 [0] hp.sz (.slice (some ⟨0, 0, none⟩) _ _), _) = _
    simp [sh3, sh2, sh1, rho, idxOf, rowLv]; rfl
end Go.Proofs.Ytgeoommlmddgpaa.LtL
