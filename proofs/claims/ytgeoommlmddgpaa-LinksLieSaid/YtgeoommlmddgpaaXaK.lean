/- thalwegref18.Downs, Ups, Next: told as links' own. -/
import Derived.Test.YtgeoommlmddgpaaXaJ
import Derived.Test.YtgeoommlmddgpaaXaE
import Derived.Test.YtgeoommlmddgpaaXaH
import Derived.Test.YtgeoommlmddgpaaXaI
set_option linter.unusedVariables false
set_option linter.unusedSimpArgs false
set_option maxRecDepth 100000
namespace Go.Proofs.Ytgeoommlmddgpaa.LtL
open Go Go.Proofs Go.Proofs.Ytgeoommlmddgpaa.AI Go.RowKit Go.Proofs.Ytgeoommlmddgpaa.Sort Go.Proofs.Ytgeoommlmddgpaa.LtA

/-! ### F19 -/
noncomputable def E16r : Ext := extG (extH Try.prog []) [(43, G43d)]
theorem E16r_ok : ExtOk Try.prog E16r := extG_ok (extH_ok (.nil)) (.cons hkG43d (.nil))
noncomputable def c16r : CallF := aCall Try.prog E16r 5
theorem c16r_ok : CallOk Try.prog c16r := aCall_sound E16r_ok follows 5
theorem c16r_43 (args : List Value) (hp : Hp) : c16r 43 args hp = G43d args hp := by
  show aCall Try.prog E16r 5 43 _ _ = _
  rw [aCall]; rfl
noncomputable def fb16r : Code := (Try.f16.body).getD .skip
theorem body16r : Try.f16.body = some fb16r := by kernel_rfl
theorem ntmps16r : Try.f16.ntmps = 8 := by kernel_rfl
theorem s16r : codeSafe Try.prog 8 fb16r = true := by kernel_rfl
theorem q16r (v : Value) (O : List Blk) (g : Nat → Value) : retVal Try.prog Try.f16 (stOf 8 g [(4, v)] O) = some v := by kernel_rfl
section
variable (fi : Bool) (o I : Blk) (own : ViewV) (n c k : Nat)
theorem r16rt : (execE Try.prog c16r [] [(7, vI fi 3 k, [I, .dead])] [] 20 fb16r ⟨tmsOf [rowS 0 n c, hcA own] 0 .leaf, heapOf [o, .dead] hp0, []⟩).map (fun z => (look2 1 [3] [4] (z.1, z.2.1), z.2.2)) =
    some ((.ret, [I], [(4, vI fi 0 k)], true), [], [(c16r 43 [rowS 0 n c, hcA own, .int .i64 1] (heapOf [o, .dead, hB own] hp0), (vI fi 3 k, heapOf [I, .dead] (heapOf [o, .dead, hB own] hp0)))], []) := by cases fi <;> kernel_rfl
theorem r16rn : (execE Try.prog c16r [] [(7, vI fi 2 k, [I, .dead])] [] 20 fb16r ⟨tmsOf [nilS, hcA own] 0 .leaf, heapOf [.dead] hp0, []⟩).map (fun z => (look2 1 [2] [4] (z.1, z.2.1), z.2.2)) =
    some ((.ret, [I], [(4, vI fi 0 k)], true), [], [(c16r 43 [nilS, hcA own, .int .i64 1] (heapOf [.dead, hB own] hp0), (vI fi 2 k, heapOf [I, .dead] (heapOf [.dead, hB own] hp0)))], []) := by cases fi <;> kernel_rfl
end
theorem run16r (vs : List ViewV) (hn : vs.length < 1000000) : ∀ rest v0 O, wayR19 vs rest = some (v0, O) → RowRun Try.f16 fb16r 8 vs rest v0 O := fun rest v0 O h => by
  unfold wayR19 at h
  split at h
  case h_2 => cases h
  rename_i v
  obtain ⟨own, hown, h2⟩ := Option.map_eq_some_iff.1 h
  obtain rfl := unH_some hown
  cases h2
  refine ⟨rowI_out _, rowI_ok _, (by intro r hr; have e : r = hcA own := (by simpa using hr); rw [e]; exact stay_h _), by simp, fun f o c W ho hrow hfl => ?_⟩
  cases f with
  | true =>
    have h := (c16r_43 [rowS 0 vs.length c, hcA own, .int .i64 1] (heapOf [o, .dead, hB own] hp0)).trans (G43d_of (d := 1) own (by simp) (.inr ⟨0, c, o, rfl, by rw [heapOf0_get]; rfl, ho, hrow⟩) hn)
    generalize idsD 1 own vs = ids at *
    have hr := r16rt (!ids.isEmpty) o (ownI ids) own vs.length c ids.length
    rw [vI_row, vI_row] at hr
    exact FRwp.pieceY c16r_ok follows 1 _ _ _ _ hr Met.nil (MetH.cons h MetH.nil) MetE.nil s16r rfl rfl (fix11 (ownI_inert ids) []) fun g => fin_row q16r ids g
  | false =>
    obtain ⟨rfl, rfl⟩ := hfl rfl
    have h := (c16r_43 [nilS, hcA own, .int .i64 1] (heapOf [.dead, hB own] hp0)).trans (G43d_of (vs := []) (d := 1) own (by simp) (.inl ⟨rfl, rfl⟩) (by simp))
    generalize idsD 1 own [] = ids at *
    have hr := r16rn (!ids.isEmpty) (ownI ids) own ids.length
    rw [vI_row, vI_row] at hr
    exact FRwp.pieceY c16r_ok follows 1 _ _ _ _ hr Met.nil (MetH.cons h MetH.nil) MetE.nil s16r rfl rfl (fix11 (ownI_inert ids) []) fun g => fin_row q16r ids g
noncomputable def G16r : HeapFn := padF (toldR wayR19)
theorem hkG16r : CallGoal Try.prog 16 G16r := pad_goal (toldR_goal Try.func16 body16r (by kernel_rfl) ntmps16r fun vs hn => run16r vs hn)
theorem G16r_of {vs : List ViewV} {s : Value} {hp : Hp} (own : ViewV) (h : TN vs s hp) (hn : vs.length < 1000000) : G16r [s, hcA own] hp = some (rowIv (idsD 1 own vs) hp.sz, heapOf [ownI (idsD 1 own vs), .dead] hp) := toldR_ids h hn rfl
/-! ### F20 -/
noncomputable def E18r : Ext := extG (extH Try.prog []) [(43, G43d)]
theorem E18r_ok : ExtOk Try.prog E18r := extG_ok (extH_ok (.nil)) (.cons hkG43d (.nil))
noncomputable def c18r : CallF := aCall Try.prog E18r 5
theorem c18r_ok : CallOk Try.prog c18r := aCall_sound E18r_ok follows 5
theorem c18r_43 (args : List Value) (hp : Hp) : c18r 43 args hp = G43d args hp := by
  show aCall Try.prog E18r 5 43 _ _ = _
  rw [aCall]; rfl
noncomputable def fb18r : Code := (Try.f18.body).getD .skip
theorem body18r : Try.f18.body = some fb18r := by kernel_rfl
theorem ntmps18r : Try.f18.ntmps = 8 := by kernel_rfl
theorem s18r : codeSafe Try.prog 8 fb18r = true := by kernel_rfl
theorem q18r (v : Value) (O : List Blk) (g : Nat → Value) : retVal Try.prog Try.f18 (stOf 8 g [(4, v)] O) = some v := by kernel_rfl
section
variable (fi : Bool) (o I : Blk) (own : ViewV) (n c k : Nat)
theorem r18rt : (execE Try.prog c18r [] [(7, vI fi 3 k, [I, .dead])] [] 20 fb18r ⟨tmsOf [rowS 0 n c, hcA own] 0 .leaf, heapOf [o, .dead] hp0, []⟩).map (fun z => (look2 1 [3] [4] (z.1, z.2.1), z.2.2)) =
    some ((.ret, [I], [(4, vI fi 0 k)], true), [], [(c18r 43 [rowS 0 n c, hcA own, .int .i64 2] (heapOf [o, .dead, hB own] hp0), (vI fi 3 k, heapOf [I, .dead] (heapOf [o, .dead, hB own] hp0)))], []) := by cases fi <;> kernel_rfl
theorem r18rn : (execE Try.prog c18r [] [(7, vI fi 2 k, [I, .dead])] [] 20 fb18r ⟨tmsOf [nilS, hcA own] 0 .leaf, heapOf [.dead] hp0, []⟩).map (fun z => (look2 1 [2] [4] (z.1, z.2.1), z.2.2)) =
    some ((.ret, [I], [(4, vI fi 0 k)], true), [], [(c18r 43 [nilS, hcA own, .int .i64 2] (heapOf [.dead, hB own] hp0), (vI fi 2 k, heapOf [I, .dead] (heapOf [.dead, hB own] hp0)))], []) := by cases fi <;> kernel_rfl
end
theorem run18r (vs : List ViewV) (hn : vs.length < 1000000) : ∀ rest v0 O, wayR20 vs rest = some (v0, O) → RowRun Try.f18 fb18r 8 vs rest v0 O := fun rest v0 O h => by
  unfold wayR20 at h
  split at h
  case h_2 => cases h
  rename_i v
  obtain ⟨own, hown, h2⟩ := Option.map_eq_some_iff.1 h
  obtain rfl := unH_some hown
  cases h2
  refine ⟨rowI_out _, rowI_ok _, (by intro r hr; have e : r = hcA own := (by simpa using hr); rw [e]; exact stay_h _), by simp, fun f o c W ho hrow hfl => ?_⟩
  cases f with
  | true =>
    have h := (c18r_43 [rowS 0 vs.length c, hcA own, .int .i64 2] (heapOf [o, .dead, hB own] hp0)).trans (G43d_of (d := 2) own (by simp) (.inr ⟨0, c, o, rfl, by rw [heapOf0_get]; rfl, ho, hrow⟩) hn)
    generalize idsD 2 own vs = ids at *
    have hr := r18rt (!ids.isEmpty) o (ownI ids) own vs.length c ids.length
    rw [vI_row, vI_row] at hr
    exact FRwp.pieceY c18r_ok follows 1 _ _ _ _ hr Met.nil (MetH.cons h MetH.nil) MetE.nil s18r rfl rfl (fix11 (ownI_inert ids) []) fun g => fin_row q18r ids g
  | false =>
    obtain ⟨rfl, rfl⟩ := hfl rfl
    have h := (c18r_43 [nilS, hcA own, .int .i64 2] (heapOf [.dead, hB own] hp0)).trans (G43d_of (vs := []) (d := 2) own (by simp) (.inl ⟨rfl, rfl⟩) (by simp))
    generalize idsD 2 own [] = ids at *
    have hr := r18rn (!ids.isEmpty) (ownI ids) own ids.length
    rw [vI_row, vI_row] at hr
    exact FRwp.pieceY c18r_ok follows 1 _ _ _ _ hr Met.nil (MetH.cons h MetH.nil) MetE.nil s18r rfl rfl (fix11 (ownI_inert ids) []) fun g => fin_row q18r ids g
noncomputable def G18r : HeapFn := padF (toldR wayR20)
theorem hkG18r : CallGoal Try.prog 18 G18r := pad_goal (toldR_goal Try.func18 body18r (by kernel_rfl) ntmps18r fun vs hn => run18r vs hn)
/-! ### Next -/
noncomputable def E11r : Ext := extG (extH Try.prog []) [(16, G16r)]
theorem E11r_ok : ExtOk Try.prog E11r := extG_ok (extH_ok (.nil)) (.cons hkG16r (.nil))
noncomputable def c11r : CallF := aCall Try.prog E11r 5
theorem c11r_ok : CallOk Try.prog c11r := aCall_sound E11r_ok follows 5
theorem c11r_16 (args : List Value) (hp : Hp) : c11r 16 args hp = G16r args hp := by
  show aCall Try.prog E11r 5 16 _ _ = _
  rw [aCall]; rfl
noncomputable def fb11r : Code := (Try.f11.body).getD .skip
theorem body11r : Try.f11.body = some fb11r := by kernel_rfl
theorem ntmps11r : Try.f11.ntmps = 16 := by kernel_rfl
theorem s11r : codeSafe Try.prog 16 fb11r = true := by kernel_rfl
theorem q11r (v u : Value) (O : List Blk) (g : Nat → Value) : retVal Try.prog Try.f11 (stOf 16 g [(4, v), (5, u)] O) = some (.tuple #[v, u]) := by kernel_rfl
section
variable (o I : Blk) (own : ViewV) (n c k : Nat) (z : Int)
theorem r11rt : (execE Try.prog c11r [(14, pb 3 0), (15, .int .i64 z)] [(9, newI 3 (k + 1), [I, .dead])] [] 20 fb11r ⟨tmsOf [rowS 0 n c, hcA own] 0 .leaf, heapOf [o, .dead] hp0, []⟩).map (fun z => (look2 0 [] [4, 5] (z.1, z.2.1), z.2.2)) =
    some ((.ret, [], [(4, .int .i64 z), (5, .bool true)], true), [ixI 3 (k + 1) 0, ldO (heapOf [I, .dead] (heapOf [o, .dead, hB own] hp0)).get 3 3 0 (.int .i64 z)], [(c11r 16 [rowS 0 n c, hcA own] (heapOf [o, .dead, hB own] hp0), (newI 3 (k + 1), heapOf [I, .dead] (heapOf [o, .dead, hB own] hp0)))], []) := by kernel_rfl
theorem r11rte : (execE Try.prog c11r [] [(9, nilS, [I, .dead])] [] 20 fb11r ⟨tmsOf [rowS 0 n c, hcA own] 0 .leaf, heapOf [o, .dead] hp0, []⟩).map (fun z => (look2 0 [] [4, 5] (z.1, z.2.1), z.2.2)) =
    some ((.ret, [], [(4, .int .i64 0), (5, .bool false)], true), [], [(c11r 16 [rowS 0 n c, hcA own] (heapOf [o, .dead, hB own] hp0), (nilS, heapOf [I, .dead] (heapOf [o, .dead, hB own] hp0)))], []) := by kernel_rfl
theorem r11rn : (execE Try.prog c11r [(14, pb 2 0), (15, .int .i64 z)] [(9, newI 2 (k + 1), [I, .dead])] [] 20 fb11r ⟨tmsOf [nilS, hcA own] 0 .leaf, heapOf [.dead] hp0, []⟩).map (fun z => (look2 0 [] [4, 5] (z.1, z.2.1), z.2.2)) =
    some ((.ret, [], [(4, .int .i64 z), (5, .bool true)], true), [ixI 2 (k + 1) 0, ldO (heapOf [I, .dead] (heapOf [.dead, hB own] hp0)).get 3 2 0 (.int .i64 z)], [(c11r 16 [nilS, hcA own] (heapOf [.dead, hB own] hp0), (newI 2 (k + 1), heapOf [I, .dead] (heapOf [.dead, hB own] hp0)))], []) := by kernel_rfl
theorem r11rne : (execE Try.prog c11r [] [(9, nilS, [I, .dead])] [] 20 fb11r ⟨tmsOf [nilS, hcA own] 0 .leaf, heapOf [.dead] hp0, []⟩).map (fun z => (look2 0 [] [4, 5] (z.1, z.2.1), z.2.2)) =
    some ((.ret, [], [(4, .int .i64 0), (5, .bool false)], true), [], [(c11r 16 [nilS, hcA own] (heapOf [.dead, hB own] hp0), (nilS, heapOf [I, .dead] (heapOf [.dead, hB own] hp0)))], []) := by kernel_rfl
end
theorem run11r (vs : List ViewV) (hn : vs.length < 1000000) : ∀ rest v0 O, nxtR vs rest = some (v0, O) → RowRun Try.f11 fb11r 16 vs rest v0 O := fun rest v0 O h => by
  unfold nxtR at h
  split at h
  case h_2 => cases h
  rename_i v
  obtain ⟨own, hown, h2⟩ := Option.map_eq_some_iff.1 h
  obtain rfl := unH_some hown
  cases h2
  refine ⟨.inl rfl, nxtA_ok _ _, (by intro r hr; have e : r = hcA own := (by simpa using hr); rw [e]; exact stay_h _), by simp, fun f o c W ho hrow hfl => ?_⟩
  cases f with
  | true =>
    have h := (c11r_16 [rowS 0 vs.length c, hcA own] (heapOf [o, .dead, hB own] hp0)).trans (G16r_of own (.inr ⟨0, c, o, rfl, by rw [heapOf0_get]; rfl, ho, hrow⟩) hn)
    unfold nxtA
    generalize idsD 1 own vs = ids at *
    cases ids with
    | nil => exact FRwp.pieceY c11r_ok follows 0 _ _ _ _ (r11rte o .dead own vs.length c) Met.nil (MetH.cons h MetH.nil) MetE.nil s11r rfl rfl (noFix _) fun g => ⟨.inr rfl, rfl, q11r _ _ _ g, (fun B hB => by cases hB)⟩
    | cons z ids => exact FRwp.pieceY c11r_ok follows 0 _ _ _ _ (r11rt o (iB (z :: ids)) own vs.length c ids.length z) (Met.cons (ixI_ok (by omega)) (Met.cons (ldA_ok (isI (z :: ids)) (by rw [heapOf_get]; rfl) rfl) Met.nil)) (MetH.cons h MetH.nil) MetE.nil s11r rfl rfl (noFix _) fun g => ⟨.inr rfl, rfl, q11r _ _ _ g, (fun B hB => by cases hB)⟩
  | false =>
    obtain ⟨rfl, rfl⟩ := hfl rfl
    have h := (c11r_16 [nilS, hcA own] (heapOf [.dead, hB own] hp0)).trans (G16r_of (vs := []) own (.inl ⟨rfl, rfl⟩) (by simp))
    unfold nxtA
    generalize idsD 1 own [] = ids at *
    cases ids with
    | nil => exact FRwp.pieceY c11r_ok follows 0 _ _ _ _ (r11rne .dead own) Met.nil (MetH.cons h MetH.nil) MetE.nil s11r rfl rfl (noFix _) fun g => ⟨.inr rfl, rfl, q11r _ _ _ g, (fun B hB => by cases hB)⟩
    | cons z ids => exact FRwp.pieceY c11r_ok follows 0 _ _ _ _ (r11rn (iB (z :: ids)) own ids.length z) (Met.cons (ixI_ok (by omega)) (Met.cons (ldA_ok (isI (z :: ids)) (by rw [heapOf_get]; rfl) rfl) Met.nil)) (MetH.cons h MetH.nil) MetE.nil s11r rfl rfl (noFix _) fun g => ⟨.inr rfl, rfl, q11r _ _ _ g, (fun B hB => by cases hB)⟩
noncomputable def G11r : HeapFn := toldR nxtR
theorem hkG11r : CallGoal Try.prog 11 G11r := toldR_goal Try.func11 body11r (by kernel_rfl) ntmps11r fun vs hn => run11r vs hn
end Go.Proofs.Ytgeoommlmddgpaa.LtL
namespace Go.Proofs.Ytgeoommlmddgpaa.LtL
open Go Go.Proofs Go.Proofs.Ytgeoommlmddgpaa.AI Go.RowKit Go.Proofs.Ytgeoommlmddgpaa.Sort Go.Proofs.Ytgeoommlmddgpaa.LtA

noncomputable def EOrd : Ext := extH Try.prog []
theorem EOrd_ok : ExtOk Try.prog EOrd := extH_ok .nil
noncomputable def fbOrd : Code := (Try.f47.body).getD .skip
theorem bodyOrd : Try.f47.body = some fbOrd := by kernel_rfl
theorem ntOrd : Try.f47.ntmps = 20 := by kernel_rfl
theorem sOrd : codeSafe Try.prog 20 fbOrd = true := by kernel_rfl
theorem qOrd (v : Value) (O : List Blk) (g : Nat → Value) : retVal Try.prog Try.f47 (stOf 20 g [(4, v)] O) = some v := by kernel_rfl
theorem rOrd_0 (a b : Lev) : (execN Try.prog (aCall Try.prog EOrd 60) (callN Try.prog EOrd 60) 200 fbOrd ⟨tmsOf [lA a, lA b] 0 .leaf, hp0, []⟩ (acc0 [(32, .v (.bool true))])).map (fun y => (look2 0 [] [4] (y.1, y.2.1), y.2.2.q, y.2.2.r, y.2.2.x)) =
    some ((.ret, [], [(4, .int .i64 (Int.negSucc 0))], true), [(some (.bool (decide (a.1 < b.1))), .bool true)], [], []) := by kernel_rfl
theorem rOrd_1 (a b : Lev) : (execN Try.prog (aCall Try.prog EOrd 60) (callN Try.prog EOrd 60) 200 fbOrd ⟨tmsOf [lA a, lA b] 0 .leaf, hp0, []⟩ (acc0 [(41, .v (.bool true)), (32, .v (.bool false))])).map (fun y => (look2 0 [] [4] (y.1, y.2.1), y.2.2.q, y.2.2.r, y.2.2.x)) =
    some ((.ret, [], [(4, iN 1)], true), [(some (.bool (decide (a.1 > b.1))), .bool true), (some (.bool (decide (a.1 < b.1))), .bool false)], [], []) := by kernel_rfl
theorem rOrd_2 (a b : Lev) : (execN Try.prog (aCall Try.prog EOrd 60) (callN Try.prog EOrd 60) 200 fbOrd ⟨tmsOf [lA a, lA b] 0 .leaf, hp0, []⟩ (acc0 [(57, .v (.bool true)), (41, .v (.bool false)), (32, .v (.bool false))])).map (fun y => (look2 0 [] [4] (y.1, y.2.1), y.2.2.q, y.2.2.r, y.2.2.x)) =
    some ((.ret, [], [(4, .int .i64 (Int.negSucc 0))], true), [(some (.bool (decide (a.2.1 < b.2.1))), .bool true), (some (.bool (decide (a.1 > b.1))), .bool false), (some (.bool (decide (a.1 < b.1))), .bool false)], [], []) := by kernel_rfl
theorem rOrd_3 (a b : Lev) : (execN Try.prog (aCall Try.prog EOrd 60) (callN Try.prog EOrd 60) 200 fbOrd ⟨tmsOf [lA a, lA b] 0 .leaf, hp0, []⟩ (acc0 [(66, .v (.bool true)), (57, .v (.bool false)), (41, .v (.bool false)), (32, .v (.bool false))])).map (fun y => (look2 0 [] [4] (y.1, y.2.1), y.2.2.q, y.2.2.r, y.2.2.x)) =
    some ((.ret, [], [(4, iN 1)], true), [(some (.bool (decide (a.2.1 > b.2.1))), .bool true), (some (.bool (decide (a.2.1 < b.2.1))), .bool false), (some (.bool (decide (a.1 > b.1))), .bool false), (some (.bool (decide (a.1 < b.1))), .bool false)], [], []) := by kernel_rfl
theorem rOrd_4 (a b : Lev) : (execN Try.prog (aCall Try.prog EOrd 60) (callN Try.prog EOrd 60) 200 fbOrd ⟨tmsOf [lA a, lA b] 0 .leaf, hp0, []⟩ (acc0 [(82, .v (.bool true)), (66, .v (.bool false)), (57, .v (.bool false)), (41, .v (.bool false)), (32, .v (.bool false))])).map (fun y => (look2 0 [] [4] (y.1, y.2.1), y.2.2.q, y.2.2.r, y.2.2.x)) =
    some ((.ret, [], [(4, .int .i64 (Int.negSucc 0))], true), [(some (.bool (decide (a.2.2 < b.2.2))), .bool true), (some (.bool (decide (a.2.1 > b.2.1))), .bool false), (some (.bool (decide (a.2.1 < b.2.1))), .bool false), (some (.bool (decide (a.1 > b.1))), .bool false), (some (.bool (decide (a.1 < b.1))), .bool false)], [], []) := by kernel_rfl
theorem rOrd_5 (a b : Lev) : (execN Try.prog (aCall Try.prog EOrd 60) (callN Try.prog EOrd 60) 200 fbOrd ⟨tmsOf [lA a, lA b] 0 .leaf, hp0, []⟩ (acc0 [(91, .v (.bool true)), (82, .v (.bool false)), (66, .v (.bool false)), (57, .v (.bool false)), (41, .v (.bool false)), (32, .v (.bool false))])).map (fun y => (look2 0 [] [4] (y.1, y.2.1), y.2.2.q, y.2.2.r, y.2.2.x)) =
    some ((.ret, [], [(4, iN 1)], true), [(some (.bool (decide (a.2.2 > b.2.2))), .bool true), (some (.bool (decide (a.2.2 < b.2.2))), .bool false), (some (.bool (decide (a.2.1 > b.2.1))), .bool false), (some (.bool (decide (a.2.1 < b.2.1))), .bool false), (some (.bool (decide (a.1 > b.1))), .bool false), (some (.bool (decide (a.1 < b.1))), .bool false)], [], []) := by kernel_rfl
theorem rOrd_6 (a b : Lev) : (execN Try.prog (aCall Try.prog EOrd 60) (callN Try.prog EOrd 60) 200 fbOrd ⟨tmsOf [lA a, lA b] 0 .leaf, hp0, []⟩ (acc0 [(91, .v (.bool false)), (82, .v (.bool false)), (66, .v (.bool false)), (57, .v (.bool false)), (41, .v (.bool false)), (32, .v (.bool false))])).map (fun y => (look2 0 [] [4] (y.1, y.2.1), y.2.2.q, y.2.2.r, y.2.2.x)) =
    some ((.ret, [], [(4, iN 0)], true), [(some (.bool (decide (a.2.2 > b.2.2))), .bool false), (some (.bool (decide (a.2.2 < b.2.2))), .bool false), (some (.bool (decide (a.2.1 > b.2.1))), .bool false), (some (.bool (decide (a.2.1 < b.2.1))), .bool false), (some (.bool (decide (a.1 > b.1))), .bool false), (some (.bool (decide (a.1 < b.1))), .bool false)], [], []) := by kernel_rfl

theorem frOrd (a b : Lev) (W : Base) : FRwp Try.prog 20 W fbOrd ⟨tmsOf [lA a, lA b] 0 .leaf, hp0, []⟩ (fun e st => (e = .normal ∨ e = .ret) ∧ st.df = [] ∧ retVal Try.prog Try.f47 st = some (.int .i64 (ordL a b))) := by
  cases h_32 : (decide (a.1 < b.1)) with
  | true =>
    exact FRwp.pieceN EOrd_ok follows 60 0 _ _ _ _ (rOrd_0 a b) (Met.cons (bool_ok h_32) Met.nil) (MetH.nil) (MetE.nil) sOrd rfl rfl (noFix _) fun g => ⟨.inr rfl, rfl, (qOrd _ _ g).trans (by simp only [decide_eq_true_eq, decide_eq_false_iff_not] at *; simp [ordL, ord3, or3, cmp3, iN, *])⟩
  | false =>
    cases h_41 : (decide (a.1 > b.1)) with
    | true =>
      exact FRwp.pieceN EOrd_ok follows 60 0 _ _ _ _ (rOrd_1 a b) (Met.cons (bool_ok h_41) (Met.cons (bool_ok h_32) Met.nil)) (MetH.nil) (MetE.nil) sOrd rfl rfl (noFix _) fun g => ⟨.inr rfl, rfl, (qOrd _ _ g).trans (by simp only [decide_eq_true_eq, decide_eq_false_iff_not] at *; simp [ordL, ord3, or3, cmp3, iN, *])⟩
    | false =>
      cases h_57 : (decide (a.2.1 < b.2.1)) with
      | true =>
        exact FRwp.pieceN EOrd_ok follows 60 0 _ _ _ _ (rOrd_2 a b) (Met.cons (bool_ok h_57) (Met.cons (bool_ok h_41) (Met.cons (bool_ok h_32) Met.nil))) (MetH.nil) (MetE.nil) sOrd rfl rfl (noFix _) fun g => ⟨.inr rfl, rfl, (qOrd _ _ g).trans (by simp only [decide_eq_true_eq, decide_eq_false_iff_not] at *; simp [ordL, ord3, or3, cmp3, iN, *])⟩
      | false =>
        cases h_66 : (decide (a.2.1 > b.2.1)) with
        | true =>
          exact FRwp.pieceN EOrd_ok follows 60 0 _ _ _ _ (rOrd_3 a b) (Met.cons (bool_ok h_66) (Met.cons (bool_ok h_57) (Met.cons (bool_ok h_41) (Met.cons (bool_ok h_32) Met.nil)))) (MetH.nil) (MetE.nil) sOrd rfl rfl (noFix _) fun g => ⟨.inr rfl, rfl, (qOrd _ _ g).trans (by simp only [decide_eq_true_eq, decide_eq_false_iff_not] at *; simp [ordL, ord3, or3, cmp3, iN, *])⟩
        | false =>
          cases h_82 : (decide (a.2.2 < b.2.2)) with
          | true =>
            exact FRwp.pieceN EOrd_ok follows 60 0 _ _ _ _ (rOrd_4 a b) (Met.cons (bool_ok h_82) (Met.cons (bool_ok h_66) (Met.cons (bool_ok h_57) (Met.cons (bool_ok h_41) (Met.cons (bool_ok h_32) Met.nil))))) (MetH.nil) (MetE.nil) sOrd rfl rfl (noFix _) fun g => ⟨.inr rfl, rfl, (qOrd _ _ g).trans (by simp only [decide_eq_true_eq, decide_eq_false_iff_not] at *; simp [ordL, ord3, or3, cmp3, iN, *])⟩
          | false =>
            cases h_91 : (decide (a.2.2 > b.2.2)) with
            | true =>
              exact FRwp.pieceN EOrd_ok follows 60 0 _ _ _ _ (rOrd_5 a b) (Met.cons (bool_ok h_91) (Met.cons (bool_ok h_82) (Met.cons (bool_ok h_66) (Met.cons (bool_ok h_57) (Met.cons (bool_ok h_41) (Met.cons (bool_ok h_32) Met.nil)))))) (MetH.nil) (MetE.nil) sOrd rfl rfl (noFix _) fun g => ⟨.inr rfl, rfl, (qOrd _ _ g).trans (by simp only [decide_eq_true_eq, decide_eq_false_iff_not] at *; simp [ordL, ord3, or3, cmp3, iN, *])⟩
            | false =>
              exact FRwp.pieceN EOrd_ok follows 60 0 _ _ _ _ (rOrd_6 a b) (Met.cons (bool_ok h_91) (Met.cons (bool_ok h_82) (Met.cons (bool_ok h_66) (Met.cons (bool_ok h_57) (Met.cons (bool_ok h_41) (Met.cons (bool_ok h_32) Met.nil)))))) (MetH.nil) (MetE.nil) sOrd rfl rfl (noFix _) fun g => ⟨.inr rfl, rfl, (qOrd _ _ g).trans (by simp only [decide_eq_true_eq, decide_eq_false_iff_not] at *; simp [ordL, ord3, or3, cmp3, iN, *])⟩

theorem hkOrd : HookGoal Try.prog 47 g30 := hook_fr Try.func47 (by kernel_rfl) bodyOrd ntOrd fun args v h => by
  unfold g30 at h
  split at h
  · rename_i c0 c1
    split at h
    · rename_i a b c d e f ec0 ec1
      cases h
      obtain rfl := arr_of ec0
      obtain rfl := arr_of ec1
      exact ⟨rfl, rfl, by simp, fun W => frOrd (a, b, c) (d, e, f) W⟩
    · cases h
  · cases h
def lbx (y : Lev) : Blk := .cells 42 (lc y) false
noncomputable def E22r : Ext := extH Try.prog [(40, g64), (46, g31), (47, g30)]
theorem E22r_ok : ExtOk Try.prog E22r := extH_ok (.cons hk64 (.cons hk67 (.cons hkOrd .nil)))
theorem q22r (v : Value) (O : List Blk) (g : Nat → Value) : retVal Try.prog Try.f22 (stOf 70 g [(2, v)] O) = some v := by kernel_rfl
noncomputable def fb22r : Code := (Try.f22.body).getD .skip
theorem ntmps22r : Try.f22.ntmps = 70 := by kernel_rfl
noncomputable def k22ra : Code := sL (fb22r)
theorem sk22ra : codeSafe Try.prog 70 k22ra = true := by kernel_rfl
noncomputable def k22rb : Code := sL (sR (fb22r))
theorem sk22rb : codeSafe Try.prog 70 k22rb = true := by kernel_rfl
noncomputable def k22rc : Code := sL (sL (sR (sR (fb22r))))
theorem sk22rc : codeSafe Try.prog 70 k22rc = true := by kernel_rfl
noncomputable def k22rM : Code := sL (unL (unB (sR (sL (sR (sR (fb22r)))))))
theorem sk22rM : codeSafe Try.prog 70 k22rM = true := by kernel_rfl
noncomputable def k22rX : Code := sL (unB (sL (sR (unL (unB (sR (sL (sR (sR (fb22r))))))))))
theorem sk22rX : codeSafe Try.prog 70 k22rX = true := by kernel_rfl
noncomputable def k22rD : Code := sL (sR (unB (sL (sR (unL (unB (sR (sL (sR (sR (fb22r)))))))))))
theorem sk22rD : codeSafe Try.prog 70 k22rD = true := by kernel_rfl
noncomputable def k22rE : Code := sL (sR (sR (unB (sL (sR (unL (unB (sR (sL (sR (sR (fb22r))))))))))))
theorem sk22rE : codeSafe Try.prog 70 k22rE = true := by kernel_rfl
noncomputable def k22rF : Code := sL (sR (sR (sR (unB (sL (sR (unL (unB (sR (sL (sR (sR (fb22r)))))))))))))
theorem sk22rF : codeSafe Try.prog 70 k22rF = true := by kernel_rfl
noncomputable def k22rH : Code := sL (sL (sR (sR (sR (sR (unB (sL (sR (unL (unB (sR (sL (sR (sR (fb22r)))))))))))))))
theorem sk22rH : codeSafe Try.prog 70 k22rH = true := by kernel_rfl
noncomputable def k22rJ : Code := unL (unB (sR (sL (sR (sR (sR (sR (unB (sL (sR (unL (unB (sR (sL (sR (sR (fb22r)))))))))))))))))
theorem sk22rJ : codeSafe Try.prog 70 k22rJ = true := by kernel_rfl
noncomputable def k22rK : Code := sR (sR (sR (sR (sR (unB (sL (sR (unL (unB (sR (sL (sR (sR (fb22r))))))))))))))
theorem sk22rK : codeSafe Try.prog 70 k22rK = true := by kernel_rfl
noncomputable def k22rI : Code := sR (sR (unL (unB (sR (sL (sR (sR (fb22r))))))))
theorem sk22rI : codeSafe Try.prog 70 k22rI = true := by kernel_rfl
noncomputable def k22rz : Code := sR (sR (sR (fb22r)))
theorem sk22rz : codeSafe Try.prog 70 k22rz = true := by kernel_rfl
noncomputable abbrev code22r : Code := .seq k22ra (.seq k22rb (.seq (.seq k22rc (.block 0 (.loop (.seq k22rM (.seq (.block 1 (.seq k22rX (.seq k22rD (.seq k22rE (.seq k22rF (.seq (.seq k22rH (.block 2 (.loop k22rJ))) k22rK)))))) k22rI))))) k22rz))
theorem body22r : Try.f22.body = some code22r := by kernel_rfl
theorem lrA_0 (f fu fm b : Bool) (o : Blk) (us ms zs zt : List Lev) (n c u m i k : Nat) (x : ViewV) (y z : Lev) (g : Nat → Value) : (execN Try.prog (aCall Try.prog E22r 60) (callN Try.prog E22r 60) 60 k22ra ⟨tmsOf [vS f 0 n c] 0 .leaf, heapOf [o, .dead] hp0, []⟩ (acc0 [])).map (fun y => (look2 1 [0] [0] (y.1, y.2.1), y.2.2.q, y.2.2.r, y.2.2.x)) =
    some ((.normal, [o], [(0, vS f 0 n c)], true), [], [], []) := by cases f <;> kernel_rfl
theorem lrAn_0 (f fu fm b : Bool) (o : Blk) (us ms zs zt : List Lev) (n c u m i k : Nat) (x : ViewV) (y z : Lev) (g : Nat → Value) : (execN Try.prog (aCall Try.prog E22r 60) (callN Try.prog E22r 60) 60 k22ra ⟨tmsOf [nilS] 0 .leaf, heapOf [.dead] hp0, []⟩ (acc0 [])).map (fun y => (look2 1 [0] [0] (y.1, y.2.1), y.2.2.q, y.2.2.r, y.2.2.x)) =
    some ((.normal, [.dead], [(0, nilS)], true), [], [], []) := by kernel_rfl
theorem lrB_0 (f fu fm b : Bool) (o : Blk) (us ms zs zt : List Lev) (n c u m i k : Nat) (x : ViewV) (y z : Lev) (g : Nat → Value) : (execN Try.prog (aCall Try.prog E22r 60) (callN Try.prog E22r 60) 60 k22rb (stOf 70 g [(0, vS f 0 n c)] [o]) (acc0 [])).map (fun y => (look2 1 [0, 1] [0, 3] (y.1, y.2.1), y.2.2.q, y.2.2.r, y.2.2.x)) =
    some ((.normal, [o, .dead], [(0, vS f 0 n c), (3, nilS)], true), [], [], []) := by cases f <;> kernel_rfl
theorem lrC_0 (f fu fm b : Bool) (o : Blk) (us ms zs zt : List Lev) (n c u m i k : Nat) (x : ViewV) (y z : Lev) (g : Nat → Value) : (execN Try.prog (aCall Try.prog E22r 60) (callN Try.prog E22r 60) 60 k22rc (stOf 70 g [(0, vS f 0 n c), (3, nilS)] [o, (ownL us)]) (acc0 [])).map (fun y => (look2 2 [0, 1] [0, 3, 4] (y.1, y.2.1), y.2.2.q, y.2.2.r, y.2.2.x)) =
    some ((.normal, [o, (ownL us)], [(0, vS f 0 n c), (3, nilS), (4, iN 0)], true), [], [], []) := by cases f <;> kernel_rfl
theorem lrMx_0 (f fu fm b : Bool) (o : Blk) (us ms zs zt : List Lev) (n c u m i k : Nat) (x : ViewV) (y z : Lev) (g : Nat → Value) : (execN Try.prog (aCall Try.prog E22r 60) (callN Try.prog E22r 60) 60 k22rM (stOf 70 g [(0, vS f 0 n c), (3, vLv fu 1 u), (4, iN i)] [o, (ownL us)]) (acc0 [(3, .v (.bool false))])).map (fun y => (look2 1 [1] [3] (y.1, y.2.1), y.2.2.q, y.2.2.r, y.2.2.x)) =
    some ((.exit 0, [(ownL us)], [(3, vLv fu 0 u)], true), [(some (.bool (decide ((Int.ofNat i) < (Int.ofNat (kk f n))))), .bool false)], [], []) := by cases f <;> cases fu <;> kernel_rfl
theorem lrM_0 (f fu fm b : Bool) (o : Blk) (us ms zs zt : List Lev) (n c u m i k : Nat) (x : ViewV) (y z : Lev) (g : Nat → Value) : (execN Try.prog (aCall Try.prog E22r 60) (callN Try.prog E22r 60) 60 k22rM (stOf 70 g [(0, vS true 0 n c), (3, vLv fu 1 u), (4, iN i)] [o, (ownL us)]) (acc0 [(3, .v (.bool true))])).map (fun y => (look2 2 [0, 1] [0, 3, 4] (y.1, y.2.1), y.2.2.q, y.2.2.r, y.2.2.x)) =
    some ((.normal, [o, (ownL us)], [(0, vS true 0 n c), (3, vLv fu 1 u), (4, iN i)], true), [(some (.bool (decide ((Int.ofNat i) < (Int.ofNat (kk true n))))), .bool true)], [], []) := by cases fu <;> kernel_rfl
theorem lrX_0 (f fu fm b : Bool) (o : Blk) (us ms zs zt : List Lev) (n c u m i k : Nat) (x : ViewV) (y z : Lev) (g : Nat → Value) : (execN Try.prog (aCall Try.prog E22r 60) (callN Try.prog E22r 60) 60 k22rX (stOf 70 g [(0, vS true 0 n c), (3, vLv fu 1 u), (4, iN i)] [o, (ownL us)]) (acc0 [(6, .v (.bool true)), (4, .v (hcA x)), (2, .v (pb 0 (i * 7)))])).map (fun y => (look2 2 [0, 1] [0, 3, 4] (y.1, y.2.1), y.2.2.q, y.2.2.r, y.2.2.x)) =
    some ((.exit 1, [o, (ownL us)], [(0, vS true 0 n c), (3, vLv fu 1 u), (4, iN i)], true), [(some (.bool (!(toldV x))), .bool true), (aLoad Try.prog (heapOf [o, (ownL us), .dead] hp0).get 24 (pb 0 ((i * 7) + 1)), hcA x), (fstV ((aIndexAddr Try.prog 22 (vS true 0 n c) (iN i)).map fun v => (v, none)), pb 0 (i * 7))], [], []) := by cases fu <;> kernel_rfl
theorem lrX_1 (f fu fm b : Bool) (o : Blk) (us ms zs zt : List Lev) (n c u m i k : Nat) (x : ViewV) (y z : Lev) (g : Nat → Value) : (execN Try.prog (aCall Try.prog E22r 60) (callN Try.prog E22r 60) 60 k22rX (stOf 70 g [(0, vS true 0 n c), (3, vLv fu 1 u), (4, iN i)] [o, (ownL us)]) (acc0 [(6, .v (.bool false)), (4, .v (hcA x)), (2, .v (pb 0 (i * 7)))])).map (fun y => (look2 2 [0, 1] [0, 3, 4] (y.1, y.2.1), y.2.2.q, y.2.2.r, y.2.2.x)) =
    some ((.normal, [o, (ownL us)], [(0, vS true 0 n c), (3, vLv fu 1 u), (4, iN i)], true), [(some (.bool (!(toldV x))), .bool false), (aLoad Try.prog (heapOf [o, (ownL us), .dead] hp0).get 24 (pb 0 ((i * 7) + 1)), hcA x), (fstV ((aIndexAddr Try.prog 22 (vS true 0 n c) (iN i)).map fun v => (v, none)), pb 0 (i * 7))], [], []) := by cases fu <;> kernel_rfl
theorem lrD_0 (f fu fm b : Bool) (o : Blk) (us ms zs zt : List Lev) (n c u m i k : Nat) (x : ViewV) (y z : Lev) (g : Nat → Value) : (execN Try.prog (aCall Try.prog E22r 60) (callN Try.prog E22r 60) 60 k22rD (stOf 70 g [(0, vS true 0 n c), (3, vLv fu 1 u), (4, iN i)] [o, (ownL us)]) (acc0 [(4, .v (hcA x)), (2, .v (pb 0 (i * 7)))])).map (fun y => (look2 2 [0, 1, 3] [0, 3, 4, 5] (y.1, y.2.1), y.2.2.q, y.2.2.r, y.2.2.x)) =
    some ((.normal, [o, (ownL us), .cells 42 [.int .i64 ((lvV x).1), .int .i64 ((lvV x).2.1), .int .i64 ((lvV x).2.2)] false], [(0, vS true 0 n c), (3, vLv fu 1 u), (4, iN i), (5, pb 2 0)], true), [(aLoad Try.prog (heapOf [o, (ownL us), .dead] hp0).get 24 (pb 0 ((i * 7) + 1)), hcA x), (fstV ((aIndexAddr Try.prog 22 (vS true 0 n c) (iN i)).map fun v => (v, none)), pb 0 (i * 7))], [], []) := by cases fu <;> kernel_rfl
theorem lrE_0 (f fu fm b : Bool) (o : Blk) (us ms zs zt : List Lev) (n c u m i k : Nat) (x : ViewV) (y z : Lev) (g : Nat → Value) : (execN Try.prog (aCall Try.prog E22r 60) (callN Try.prog E22r 60) 60 k22rE (stOf 70 g [(0, vS true 0 n c), (3, vLv fu 1 u), (4, iN i), (5, pb 2 0)] [o, (ownL us), (lbx y)]) (acc0 [])).map (fun y => (look2 3 [0, 1, 2, 3] [0, 3, 4, 5, 6] (y.1, y.2.1), y.2.2.q, y.2.2.r, y.2.2.x)) =
    some ((.normal, [o, (ownL us), (lbx y), .dead], [(0, vS true 0 n c), (3, vLv fu 1 u), (4, iN i), (5, pb 2 0), (6, nilS)], true), [], [], []) := by cases fu <;> kernel_rfl
theorem lrF_0 (f fu fm b : Bool) (o : Blk) (us ms zs zt : List Lev) (n c u m i k : Nat) (x : ViewV) (y z : Lev) (g : Nat → Value) : (execN Try.prog (aCall Try.prog E22r 60) (callN Try.prog E22r 60) 60 k22rF (stOf 70 g [(0, vS true 0 n c), (3, vLv fu 1 u), (4, iN i), (5, pb 2 0), (6, nilS)] [o, (ownL us), (lbx y), (ownL ms)]) (acc0 [])).map (fun y => (look2 4 [0, 1, 2, 3] [0, 3, 4, 5, 6, 7] (y.1, y.2.1), y.2.2.q, y.2.2.r, y.2.2.x)) =
    some ((.normal, [o, (ownL us), (lbx y), (ownL ms)], [(0, vS true 0 n c), (3, vLv fu 1 u), (4, iN i), (5, pb 2 0), (6, nilS), (7, .bool false)], true), [], [], []) := by cases fu <;> kernel_rfl
theorem lrH_0 (f fu fm b : Bool) (o : Blk) (us ms zs zt : List Lev) (n c u m i k : Nat) (x : ViewV) (y z : Lev) (g : Nat → Value) : (execN Try.prog (aCall Try.prog E22r 60) (callN Try.prog E22r 60) 60 k22rH (stOf 70 g [(0, vS true 0 n c), (3, vLv fu 1 u), (4, iN i), (5, pb 2 0), (6, nilS), (7, .bool false)] [o, (ownL us), (lbx y), (ownL ms)]) (acc0 [])).map (fun y => (look2 4 [0, 1, 2, 3] [0, 3, 4, 5, 6, 7, 8] (y.1, y.2.1), y.2.2.q, y.2.2.r, y.2.2.x)) =
    some ((.normal, [o, (ownL us), (lbx y), (ownL ms)], [(0, vS true 0 n c), (3, vLv fu 1 u), (4, iN i), (5, pb 2 0), (6, nilS), (7, .bool false), (8, iN 0)], true), [], [], []) := by cases fu <;> kernel_rfl
theorem lrJx_0 (f fu fm b : Bool) (o : Blk) (us ms zs zt : List Lev) (n c u m i k : Nat) (x : ViewV) (y z : Lev) (g : Nat → Value) : (execN Try.prog (aCall Try.prog E22r 60) (callN Try.prog E22r 60) 60 k22rJ (stOf 70 g [(0, vS true 0 n c), (3, vLv fu 1 u), (4, iN i), (5, pb 2 0), (6, vLv fm 3 m), (7, .bool b), (8, iN k)] [o, (ownL us), (lbx y), (ownL ms)]) (acc0 [(3, .v (.bool false))])).map (fun y => (look2 4 [0, 1, 2, 3] [0, 3, 4, 5, 6, 7] (y.1, y.2.1), y.2.2.q, y.2.2.r, y.2.2.x)) =
    some ((.exit 2, [o, (ownL us), (lbx y), (ownL ms)], [(0, vS true 0 n c), (3, vLv fu 1 u), (4, iN i), (5, pb 2 0), (6, vLv fm 3 m), (7, .bool b)], true), [(some (.bool (decide ((Int.ofNat k) < (Int.ofNat (kk fu u))))), .bool false)], [], []) := by cases fu <;> cases fm <;> kernel_rfl
theorem lrJf_0 (f fu fm b : Bool) (o : Blk) (us ms zs zt : List Lev) (n c u m i k : Nat) (x : ViewV) (y z : Lev) (g : Nat → Value) : (execN Try.prog (aCall Try.prog E22r 60) (callN Try.prog E22r 60) 60 k22rJ (stOf 70 g [(0, vS true 0 n c), (3, vLv true 1 u), (4, iN i), (5, pb 2 0), (6, vLv fm 3 m), (7, .bool false), (8, iN k)] [o, (ownL us), (lbx y), (ownL ms)]) (acc0 [(36, .v (iN (k + 1))), (33, .e (.slice (some ⟨8, 0, none⟩) ((m + 1) + 1) 10) (effF true 6 (lB zt))), (31, .v (lA z)), (30, .v (pb 1 (k * 3))), (26, .v (.bool true)), (25, .v (lA y)), (24, .v (lA z)), (23, .v (pb 1 (k * 3))), (18, .e (.slice (some ⟨6, 0, none⟩) (m + 1) 10) (effF fm 3 (lB zs))), (16, .v (lA y)), (13, .v (.bool true)), (11, .v (lA z)), (10, .v (pb 1 (k * 3))), (7, .v (lA y)), (3, .v (.bool true))])).map (fun y => (look2 4 [0, 1, 2, 8] [0, 3, 4, 5, 6, 7, 8] (y.1, y.2.1), y.2.2.q, y.2.2.r, y.2.2.x)) =
    some ((.normal, [o, (ownL us), (lbx y), (lB zt)], [(0, vS true 0 n c), (3, vLv true 1 u), (4, iN i), (5, pb 2 0), (6, .slice (some ⟨3, 0, none⟩) ((m + 1) + 1) 10), (7, .bool true), (8, iN (k + 1))], true), [(some (.int .i64 (wrapF .i64 (Int.ofNat k + Int.ofNat 1))), iN (k + 1)), (aLoad Try.prog (heapOf [o, (ownL us), (lbx y), .dead, .dead, .cells 42 [.int .i64 y.1, .int .i64 y.2.1, .int .i64 y.2.2] false, (lB zs)] hp0).get 42 (pb 1 (k * 3)), lA z), (fstV ((aIndexAddr Try.prog 34 (vLv true 1 u) (iN k)).map fun v => (v, none)), pb 1 (k * 3)), (fstV ((aBin Try.prog .neq 42 (lA z) (lA y)).map fun v => (v, none)), .bool true), (aLoad Try.prog (heapOf [o, (ownL us), (lbx y), .dead, .dead, .cells 42 [.int .i64 y.1, .int .i64 y.2.1, .int .i64 y.2.2] false, (lB zs)] hp0).get 42 (pb 2 0), lA y), (aLoad Try.prog (heapOf [o, (ownL us), (lbx y), .dead, .dead, .cells 42 [.int .i64 y.1, .int .i64 y.2.1, .int .i64 y.2.2] false, (lB zs)] hp0).get 42 (pb 1 (k * 3)), lA z), (fstV ((aIndexAddr Try.prog 34 (vLv true 1 u) (iN k)).map fun v => (v, none)), pb 1 (k * 3)), (aLoad Try.prog (heapOf [o, (ownL us), (lbx y), (ownL ms), .dead] hp0).get 42 (pb 2 0), lA y), (some (.bool (decide ((ordL y z) ≤ (Int.ofNat 0)))), .bool true), (aLoad Try.prog (heapOf [o, (ownL us), (lbx y), (ownL ms), .dead] hp0).get 42 (pb 1 (k * 3)), lA z), (fstV ((aIndexAddr Try.prog 34 (vLv true 1 u) (iN k)).map fun v => (v, none)), pb 1 (k * 3)), (aLoad Try.prog (heapOf [o, (ownL us), (lbx y), (ownL ms), .dead] hp0).get 42 (pb 2 0), lA y), (some (.bool (decide ((Int.ofNat k) < (Int.ofNat (kk true u))))), .bool true)], [], [(aAppend Try.prog (heapOf [o, (ownL us), (lbx y), .dead, .dead, .cells 42 [.int .i64 y.1, .int .i64 y.2.1, .int .i64 y.2.2] false, (lB zs), .cells 42 [.int .i64 z.1, .int .i64 z.2.1, .int .i64 z.2.2] false] hp0).get 8 [34, 34] [.slice (some ⟨6, 0, none⟩) (m + 1) 10, .slice (some ⟨7, 0, none⟩) 1 10], (.slice (some ⟨8, 0, none⟩) ((m + 1) + 1) 10, (effF true 6 (lB zt)))), (aAppend Try.prog (heapOf [o, (ownL us), (lbx y), (ownL ms), .dead, .cells 42 [.int .i64 y.1, .int .i64 y.2.1, .int .i64 y.2.2] false] hp0).get 6 [34, 34] [vLv fm 3 m, .slice (some ⟨5, 0, none⟩) 1 10], (.slice (some ⟨6, 0, none⟩) (m + 1) 10, (effF fm 3 (lB zs))))]) := by cases fm <;> kernel_rfl
theorem lrJf_1 (f fu fm b : Bool) (o : Blk) (us ms zs zt : List Lev) (n c u m i k : Nat) (x : ViewV) (y z : Lev) (g : Nat → Value) : (execN Try.prog (aCall Try.prog E22r 60) (callN Try.prog E22r 60) 60 k22rJ (stOf 70 g [(0, vS true 0 n c), (3, vLv true 1 u), (4, iN i), (5, pb 2 0), (6, vLv fm 3 m), (7, .bool false), (8, iN k)] [o, (ownL us), (lbx y), (ownL ms)]) (acc0 [(28, .v (iN (k + 1))), (26, .v (.bool false)), (25, .v (lA y)), (24, .v (lA z)), (23, .v (pb 1 (k * 3))), (18, .e (.slice (some ⟨6, 0, none⟩) (m + 1) 10) (effF fm 3 (lB zs))), (16, .v (lA y)), (13, .v (.bool true)), (11, .v (lA z)), (10, .v (pb 1 (k * 3))), (7, .v (lA y)), (3, .v (.bool true))])).map (fun y => (look2 4 [0, 1, 2, 6] [0, 3, 4, 5, 6, 7, 8] (y.1, y.2.1), y.2.2.q, y.2.2.r, y.2.2.x)) =
    some ((.normal, [o, (ownL us), (lbx y), (lB zs)], [(0, vS true 0 n c), (3, vLv true 1 u), (4, iN i), (5, pb 2 0), (6, .slice (some ⟨3, 0, none⟩) (m + 1) 10), (7, .bool true), (8, iN (k + 1))], true), [(some (.int .i64 (wrapF .i64 (Int.ofNat k + Int.ofNat 1))), iN (k + 1)), (fstV ((aBin Try.prog .neq 42 (lA z) (lA y)).map fun v => (v, none)), .bool false), (aLoad Try.prog (heapOf [o, (ownL us), (lbx y), .dead, .dead, .cells 42 [.int .i64 y.1, .int .i64 y.2.1, .int .i64 y.2.2] false, (lB zs)] hp0).get 42 (pb 2 0), lA y), (aLoad Try.prog (heapOf [o, (ownL us), (lbx y), .dead, .dead, .cells 42 [.int .i64 y.1, .int .i64 y.2.1, .int .i64 y.2.2] false, (lB zs)] hp0).get 42 (pb 1 (k * 3)), lA z), (fstV ((aIndexAddr Try.prog 34 (vLv true 1 u) (iN k)).map fun v => (v, none)), pb 1 (k * 3)), (aLoad Try.prog (heapOf [o, (ownL us), (lbx y), (ownL ms), .dead] hp0).get 42 (pb 2 0), lA y), (some (.bool (decide ((ordL y z) ≤ (Int.ofNat 0)))), .bool true), (aLoad Try.prog (heapOf [o, (ownL us), (lbx y), (ownL ms), .dead] hp0).get 42 (pb 1 (k * 3)), lA z), (fstV ((aIndexAddr Try.prog 34 (vLv true 1 u) (iN k)).map fun v => (v, none)), pb 1 (k * 3)), (aLoad Try.prog (heapOf [o, (ownL us), (lbx y), (ownL ms), .dead] hp0).get 42 (pb 2 0), lA y), (some (.bool (decide ((Int.ofNat k) < (Int.ofNat (kk true u))))), .bool true)], [], [(aAppend Try.prog (heapOf [o, (ownL us), (lbx y), (ownL ms), .dead, .cells 42 [.int .i64 y.1, .int .i64 y.2.1, .int .i64 y.2.2] false] hp0).get 6 [34, 34] [vLv fm 3 m, .slice (some ⟨5, 0, none⟩) 1 10], (.slice (some ⟨6, 0, none⟩) (m + 1) 10, (effF fm 3 (lB zs))))]) := by cases fm <;> kernel_rfl
theorem lrJf_2 (f fu fm b : Bool) (o : Blk) (us ms zs zt : List Lev) (n c u m i k : Nat) (x : ViewV) (y z : Lev) (g : Nat → Value) : (execN Try.prog (aCall Try.prog E22r 60) (callN Try.prog E22r 60) 60 k22rJ (stOf 70 g [(0, vS true 0 n c), (3, vLv true 1 u), (4, iN i), (5, pb 2 0), (6, vLv fm 3 m), (7, .bool false), (8, iN k)] [o, (ownL us), (lbx y), (ownL ms)]) (acc0 [(30, .v (iN (k + 1))), (27, .e (.slice (some ⟨6, 0, none⟩) (m + 1) 10) (effF fm 3 (lB zs))), (25, .v (lA z)), (24, .v (pb 1 (k * 3))), (20, .v (.bool true)), (19, .v (lA y)), (18, .v (lA z)), (17, .v (pb 1 (k * 3))), (13, .v (.bool false)), (11, .v (lA z)), (10, .v (pb 1 (k * 3))), (7, .v (lA y)), (3, .v (.bool true))])).map (fun y => (look2 4 [0, 1, 2, 6] [0, 3, 4, 5, 6, 7, 8] (y.1, y.2.1), y.2.2.q, y.2.2.r, y.2.2.x)) =
    some ((.normal, [o, (ownL us), (lbx y), (lB zs)], [(0, vS true 0 n c), (3, vLv true 1 u), (4, iN i), (5, pb 2 0), (6, .slice (some ⟨3, 0, none⟩) (m + 1) 10), (7, .bool false), (8, iN (k + 1))], true), [(some (.int .i64 (wrapF .i64 (Int.ofNat k + Int.ofNat 1))), iN (k + 1)), (aLoad Try.prog (heapOf [o, (ownL us), (lbx y), (ownL ms), .dead] hp0).get 42 (pb 1 (k * 3)), lA z), (fstV ((aIndexAddr Try.prog 34 (vLv true 1 u) (iN k)).map fun v => (v, none)), pb 1 (k * 3)), (fstV ((aBin Try.prog .neq 42 (lA z) (lA y)).map fun v => (v, none)), .bool true), (aLoad Try.prog (heapOf [o, (ownL us), (lbx y), (ownL ms), .dead] hp0).get 42 (pb 2 0), lA y), (aLoad Try.prog (heapOf [o, (ownL us), (lbx y), (ownL ms), .dead] hp0).get 42 (pb 1 (k * 3)), lA z), (fstV ((aIndexAddr Try.prog 34 (vLv true 1 u) (iN k)).map fun v => (v, none)), pb 1 (k * 3)), (some (.bool (decide ((ordL y z) ≤ (Int.ofNat 0)))), .bool false), (aLoad Try.prog (heapOf [o, (ownL us), (lbx y), (ownL ms), .dead] hp0).get 42 (pb 1 (k * 3)), lA z), (fstV ((aIndexAddr Try.prog 34 (vLv true 1 u) (iN k)).map fun v => (v, none)), pb 1 (k * 3)), (aLoad Try.prog (heapOf [o, (ownL us), (lbx y), (ownL ms), .dead] hp0).get 42 (pb 2 0), lA y), (some (.bool (decide ((Int.ofNat k) < (Int.ofNat (kk true u))))), .bool true)], [], [(aAppend Try.prog (heapOf [o, (ownL us), (lbx y), (ownL ms), .dead, .cells 42 [.int .i64 z.1, .int .i64 z.2.1, .int .i64 z.2.2] false] hp0).get 6 [34, 34] [vLv fm 3 m, .slice (some ⟨5, 0, none⟩) 1 10], (.slice (some ⟨6, 0, none⟩) (m + 1) 10, (effF fm 3 (lB zs))))]) := by cases fm <;> kernel_rfl
theorem lrJf_3 (f fu fm b : Bool) (o : Blk) (us ms zs zt : List Lev) (n c u m i k : Nat) (x : ViewV) (y z : Lev) (g : Nat → Value) : (execN Try.prog (aCall Try.prog E22r 60) (callN Try.prog E22r 60) 60 k22rJ (stOf 70 g [(0, vS true 0 n c), (3, vLv true 1 u), (4, iN i), (5, pb 2 0), (6, vLv fm 3 m), (7, .bool false), (8, iN k)] [o, (ownL us), (lbx y), (ownL ms)]) (acc0 [(22, .v (iN (k + 1))), (20, .v (.bool false)), (19, .v (lA y)), (18, .v (lA z)), (17, .v (pb 1 (k * 3))), (13, .v (.bool false)), (11, .v (lA z)), (10, .v (pb 1 (k * 3))), (7, .v (lA y)), (3, .v (.bool true))])).map (fun y => (look2 4 [0, 1, 2, 3] [0, 3, 4, 5, 6, 7, 8] (y.1, y.2.1), y.2.2.q, y.2.2.r, y.2.2.x)) =
    some ((.normal, [o, (ownL us), (lbx y), (ownL ms)], [(0, vS true 0 n c), (3, vLv true 1 u), (4, iN i), (5, pb 2 0), (6, vLv fm 3 m), (7, .bool false), (8, iN (k + 1))], true), [(some (.int .i64 (wrapF .i64 (Int.ofNat k + Int.ofNat 1))), iN (k + 1)), (fstV ((aBin Try.prog .neq 42 (lA z) (lA y)).map fun v => (v, none)), .bool false), (aLoad Try.prog (heapOf [o, (ownL us), (lbx y), (ownL ms), .dead] hp0).get 42 (pb 2 0), lA y), (aLoad Try.prog (heapOf [o, (ownL us), (lbx y), (ownL ms), .dead] hp0).get 42 (pb 1 (k * 3)), lA z), (fstV ((aIndexAddr Try.prog 34 (vLv true 1 u) (iN k)).map fun v => (v, none)), pb 1 (k * 3)), (some (.bool (decide ((ordL y z) ≤ (Int.ofNat 0)))), .bool false), (aLoad Try.prog (heapOf [o, (ownL us), (lbx y), (ownL ms), .dead] hp0).get 42 (pb 1 (k * 3)), lA z), (fstV ((aIndexAddr Try.prog 34 (vLv true 1 u) (iN k)).map fun v => (v, none)), pb 1 (k * 3)), (aLoad Try.prog (heapOf [o, (ownL us), (lbx y), (ownL ms), .dead] hp0).get 42 (pb 2 0), lA y), (some (.bool (decide ((Int.ofNat k) < (Int.ofNat (kk true u))))), .bool true)], [], []) := by cases fm <;> kernel_rfl
theorem lrJt_0 (f fu fm b : Bool) (o : Blk) (us ms zs zt : List Lev) (n c u m i k : Nat) (x : ViewV) (y z : Lev) (g : Nat → Value) : (execN Try.prog (aCall Try.prog E22r 60) (callN Try.prog E22r 60) 60 k22rJ (stOf 70 g [(0, vS true 0 n c), (3, vLv true 1 u), (4, iN i), (5, pb 2 0), (6, vLv fm 3 m), (7, .bool true), (8, iN k)] [o, (ownL us), (lbx y), (ownL ms)]) (acc0 [(23, .v (iN (k + 1))), (20, .e (.slice (some ⟨6, 0, none⟩) (m + 1) 10) (effF fm 3 (lB zs))), (18, .v (lA z)), (17, .v (pb 1 (k * 3))), (13, .v (.bool true)), (12, .v (lA y)), (11, .v (lA z)), (10, .v (pb 1 (k * 3))), (3, .v (.bool true))])).map (fun y => (look2 4 [0, 1, 2, 6] [0, 3, 4, 5, 6, 7, 8] (y.1, y.2.1), y.2.2.q, y.2.2.r, y.2.2.x)) =
    some ((.normal, [o, (ownL us), (lbx y), (lB zs)], [(0, vS true 0 n c), (3, vLv true 1 u), (4, iN i), (5, pb 2 0), (6, .slice (some ⟨3, 0, none⟩) (m + 1) 10), (7, .bool true), (8, iN (k + 1))], true), [(some (.int .i64 (wrapF .i64 (Int.ofNat k + Int.ofNat 1))), iN (k + 1)), (aLoad Try.prog (heapOf [o, (ownL us), (lbx y), (ownL ms), .dead] hp0).get 42 (pb 1 (k * 3)), lA z), (fstV ((aIndexAddr Try.prog 34 (vLv true 1 u) (iN k)).map fun v => (v, none)), pb 1 (k * 3)), (fstV ((aBin Try.prog .neq 42 (lA z) (lA y)).map fun v => (v, none)), .bool true), (aLoad Try.prog (heapOf [o, (ownL us), (lbx y), (ownL ms), .dead] hp0).get 42 (pb 2 0), lA y), (aLoad Try.prog (heapOf [o, (ownL us), (lbx y), (ownL ms), .dead] hp0).get 42 (pb 1 (k * 3)), lA z), (fstV ((aIndexAddr Try.prog 34 (vLv true 1 u) (iN k)).map fun v => (v, none)), pb 1 (k * 3)), (some (.bool (decide ((Int.ofNat k) < (Int.ofNat (kk true u))))), .bool true)], [], [(aAppend Try.prog (heapOf [o, (ownL us), (lbx y), (ownL ms), .dead, .cells 42 [.int .i64 z.1, .int .i64 z.2.1, .int .i64 z.2.2] false] hp0).get 6 [34, 34] [vLv fm 3 m, .slice (some ⟨5, 0, none⟩) 1 10], (.slice (some ⟨6, 0, none⟩) (m + 1) 10, (effF fm 3 (lB zs))))]) := by cases fm <;> kernel_rfl
theorem lrJt_1 (f fu fm b : Bool) (o : Blk) (us ms zs zt : List Lev) (n c u m i k : Nat) (x : ViewV) (y z : Lev) (g : Nat → Value) : (execN Try.prog (aCall Try.prog E22r 60) (callN Try.prog E22r 60) 60 k22rJ (stOf 70 g [(0, vS true 0 n c), (3, vLv true 1 u), (4, iN i), (5, pb 2 0), (6, vLv fm 3 m), (7, .bool true), (8, iN k)] [o, (ownL us), (lbx y), (ownL ms)]) (acc0 [(15, .v (iN (k + 1))), (13, .v (.bool false)), (12, .v (lA y)), (11, .v (lA z)), (10, .v (pb 1 (k * 3))), (3, .v (.bool true))])).map (fun y => (look2 4 [0, 1, 2, 3] [0, 3, 4, 5, 6, 7, 8] (y.1, y.2.1), y.2.2.q, y.2.2.r, y.2.2.x)) =
    some ((.normal, [o, (ownL us), (lbx y), (ownL ms)], [(0, vS true 0 n c), (3, vLv true 1 u), (4, iN i), (5, pb 2 0), (6, vLv fm 3 m), (7, .bool true), (8, iN (k + 1))], true), [(some (.int .i64 (wrapF .i64 (Int.ofNat k + Int.ofNat 1))), iN (k + 1)), (fstV ((aBin Try.prog .neq 42 (lA z) (lA y)).map fun v => (v, none)), .bool false), (aLoad Try.prog (heapOf [o, (ownL us), (lbx y), (ownL ms), .dead] hp0).get 42 (pb 2 0), lA y), (aLoad Try.prog (heapOf [o, (ownL us), (lbx y), (ownL ms), .dead] hp0).get 42 (pb 1 (k * 3)), lA z), (fstV ((aIndexAddr Try.prog 34 (vLv true 1 u) (iN k)).map fun v => (v, none)), pb 1 (k * 3)), (some (.bool (decide ((Int.ofNat k) < (Int.ofNat (kk true u))))), .bool true)], [], []) := by cases fm <;> kernel_rfl
theorem lrKf_0 (f fu fm b : Bool) (o : Blk) (us ms zs zt : List Lev) (n c u m i k : Nat) (x : ViewV) (y z : Lev) (g : Nat → Value) : (execN Try.prog (aCall Try.prog E22r 60) (callN Try.prog E22r 60) 60 k22rK (stOf 70 g [(0, vS true 0 n c), (3, vLv fu 1 u), (4, iN i), (5, pb 2 0), (6, vLv fm 3 m), (7, .bool false)] [o, (ownL us), (lbx y), (ownL ms)]) (acc0 [(5, .e (.slice (some ⟨6, 0, none⟩) (m + 1) 10) (effF fm 3 (lB zs))), (3, .v (lA y))])).map (fun y => (look2 2 [0, 6] [0, 3, 4] (y.1, y.2.1), y.2.2.q, y.2.2.r, y.2.2.x)) =
    some ((.normal, [o, (lB zs)], [(0, vS true 0 n c), (3, .slice (some ⟨1, 0, none⟩) (m + 1) 10), (4, iN i)], true), [(aLoad Try.prog (heapOf [o, (ownL us), (lbx y), (ownL ms), .dead] hp0).get 42 (pb 2 0), lA y)], [], [(aAppend Try.prog (heapOf [o, (ownL us), (lbx y), (ownL ms), .dead, .cells 42 [.int .i64 y.1, .int .i64 y.2.1, .int .i64 y.2.2] false] hp0).get 6 [34, 34] [vLv fm 3 m, .slice (some ⟨5, 0, none⟩) 1 10], (.slice (some ⟨6, 0, none⟩) (m + 1) 10, (effF fm 3 (lB zs))))]) := by cases fu <;> cases fm <;> kernel_rfl
theorem lrKt_0 (f fu fm b : Bool) (o : Blk) (us ms zs zt : List Lev) (n c u m i k : Nat) (x : ViewV) (y z : Lev) (g : Nat → Value) : (execN Try.prog (aCall Try.prog E22r 60) (callN Try.prog E22r 60) 60 k22rK (stOf 70 g [(0, vS true 0 n c), (3, vLv fu 1 u), (4, iN i), (5, pb 2 0), (6, vLv fm 3 m), (7, .bool true)] [o, (ownL us), (lbx y), (ownL ms)]) (acc0 [])).map (fun y => (look2 2 [0, 3] [0, 3, 4] (y.1, y.2.1), y.2.2.q, y.2.2.r, y.2.2.x)) =
    some ((.normal, [o, (ownL ms)], [(0, vS true 0 n c), (3, vLv fm 1 m), (4, iN i)], true), [], [], []) := by cases fu <;> cases fm <;> kernel_rfl
theorem lrI_0 (f fu fm b : Bool) (o : Blk) (us ms zs zt : List Lev) (n c u m i k : Nat) (x : ViewV) (y z : Lev) (g : Nat → Value) : (execN Try.prog (aCall Try.prog E22r 60) (callN Try.prog E22r 60) 60 k22rI (stOf 70 g [(0, vS true 0 n c), (3, vLv fu 1 u), (4, iN i)] [o, (ownL us)]) (acc0 [(1, .v (iN (i + 1)))])).map (fun y => (look2 2 [0, 1] [0, 3, 4] (y.1, y.2.1), y.2.2.q, y.2.2.r, y.2.2.x)) =
    some ((.normal, [o, (ownL us)], [(0, vS true 0 n c), (3, vLv fu 1 u), (4, iN (i + 1))], true), [(some (.int .i64 (wrapF .i64 (Int.ofNat i + Int.ofNat 1))), iN (i + 1))], [], []) := by cases fu <;> kernel_rfl
theorem lrZ_0 (f fu fm b : Bool) (o : Blk) (us ms zs zt : List Lev) (n c u m i k : Nat) (x : ViewV) (y z : Lev) (g : Nat → Value) : (execN Try.prog (aCall Try.prog E22r 60) (callN Try.prog E22r 60) 60 k22rz (stOf 70 g [(3, vLv fu 0 u)] [(ownL us)]) (acc0 [])).map (fun y => (look2 1 [0] [2] (y.1, y.2.1), y.2.2.q, y.2.2.r, y.2.2.x)) =
    some ((.ret, [(ownL us)], [(2, vLv fu 0 u)], true), [], [], []) := by cases fu <;> kernel_rfl
end Go.Proofs.Ytgeoommlmddgpaa.LtL
namespace Go.Proofs.Ytgeoommlmddgpaa.LtL
open Go Go.Proofs Go.Proofs.Ytgeoommlmddgpaa.AI Go.RowKit Go.Proofs.Ytgeoommlmddgpaa.Sort Go.Proofs.Ytgeoommlmddgpaa.LtA

theorem ordL_le (v z : Lev) : decide (ordL v z ≤ Int.ofNat 0) = !ltL z v := by
  have h0 : (ordL v z ≤ 0) ↔ ¬ (z.1 < v.1 ∨ z.1 = v.1 ∧ (z.2.1 < v.2.1 ∨ z.2.1 = v.2.1 ∧ z.2.2 < v.2.2)) := by
    obtain ⟨a, b, c⟩ := v
    obtain ⟨d, e, f⟩ := z
    show ord3 a b c d e f ≤ 0 ↔ ¬ (d < a ∨ d = a ∧ (e < b ∨ e = b ∧ f < c))
    unfold ord3 or3 cmp3
    rcases Int.lt_trichotomy a d with h1 | h1 | h1
    · have q : ¬ (d < a) := by omega
      have q2 : ¬ (d = a) := by omega
      simp [h1, q, q2]
    · subst h1
      rcases Int.lt_trichotomy b e with h2 | h2 | h2
      · have q : ¬ (e < b) := by omega
        have q2 : ¬ (e = b) := by omega
        simp [h2, q, q2]
      · subst h2
        rcases Int.lt_trichotomy c f with h3 | h3 | h3
        · have q : ¬ (f < c) := by omega
          simp [h3, q]
        · subst h3; simp
        · have q : ¬ (c < f) := by omega
          simp [h3, q]
      · have q : ¬ (b < e) := by omega
        simp [h2, q]
    · have q : ¬ (a < d) := by omega
      simp [h1, q]
  cases h : ltL z v with
  | true => exact decide_eq_false (by have := ltL_iff.1 h; rw [show Int.ofNat 0 = 0 from rfl, h0]; exact fun q => q this)
  | false => exact decide_eq_true (by have := ltL_not.1 h; rw [show Int.ofNat 0 = 0 from rfl, h0]; exact this)
/-- One step of putting a level in. -/
def insS (v : Lev) (p : Bool × List Lev) (z : Lev) : Bool × List Lev :=
  bif !p.1 && decide (ordL v z ≤ Int.ofNat 0) then (bif !(z == v) then (true, p.2 ++ [v] ++ [z]) else (true, p.2 ++ [v])) else (bif !(z == v) then (p.1, p.2 ++ [z]) else p)
def insE (v : Lev) (p : Bool × List Lev) : List Lev := bif p.1 then p.2 else p.2 ++ [v]
def insL (v : Lev) (us : List Lev) : List Lev := insE v (us.foldl (insS v) (false, []))
def levI (us : List Lev) (x : ViewV) : List Lev := bif toldV x then insL (lvV x) us else us
def insR (v : Lev) : List Lev → List Lev
  | [] => [v]
  | z :: zs => bif ltL z v then z :: insR v zs else v :: (z :: zs).filter fun y => !(y == v)
theorem ins_done {v : Lev} : ∀ {zs m : List Lev}, zs.foldl (insS v) (true, m) = (true, m ++ zs.filter fun y => !(y == v))
  | [], m => by simp
  | z :: zs, m => by
    rw [List.foldl_cons]
    have e : insS v (true, m) z = (true, m ++ [z].filter fun y => !(y == v)) := by
      unfold insS
      cases h : (z == v) <;> simp [h]
    rw [e, ins_done, List.append_assoc, ← List.filter_append]
    rfl
theorem ltL_irr (v : Lev) : ltL v v = false := swoL.irrefl v
theorem ins_go {v : Lev} : ∀ {zs m : List Lev}, insE v (zs.foldl (insS v) (false, m)) = m ++ insR v zs
  | [], m => rfl
  | z :: zs, m => by
    rw [List.foldl_cons]
    cases h : ltL z v with
    | true =>
      have hne : (z == v) = false := by
        cases e : (z == v) with
        | false => rfl
        | true => rw [eq_of_beq e, ltL_irr] at h; cases h
      have e : insS v (false, m) z = (false, m ++ [z]) := by
        unfold insS
        rw [ordL_le, h, hne]; rfl
      rw [e, ins_go]
      show _ = m ++ (bif ltL z v then _ else _)
      rw [h]; simp
    | false =>
      have e : insS v (false, m) z = (true, m ++ [v] ++ [z].filter fun y => !(y == v)) := by
        unfold insS
        rw [ordL_le, h]
        cases h2 : (z == v) <;> simp [h2]
      rw [e, ins_done]
      show m ++ [v] ++ _ ++ _ = m ++ (bif ltL z v then _ else _)
      rw [h, List.append_assoc, ← List.filter_append]
      simp
theorem insR_mem {v x : Lev} : ∀ {us : List Lev}, x ∈ insR v us ↔ x = v ∨ x ∈ us
  | [] => by simp [insR]
  | z :: zs => by
    unfold insR
    cases ltL z v with
    | true => show x ∈ z :: insR v zs ↔ _; rw [List.mem_cons, insR_mem, List.mem_cons]; constructor <;> (rintro (h | h | h) <;> simp [h])
    | false =>
      show x ∈ v :: _ ↔ _
      rw [List.mem_cons, List.mem_filter]
      constructor
      · rintro (h | h)
        · exact .inl h
        · exact .inr h.1
      · rintro (h | h)
        · exact .inl h
        · by_cases e : x = v
          · exact .inl e
          · exact .inr ⟨h, by simp [e]⟩
theorem ltL_trans {a b c : Lev} (h1 : ltL a b = true) (h2 : ltL b c = true) : ltL a c = true := swoL.trans a b c h1 h2
theorem insR_rise {v : Lev} : ∀ {us : List Lev}, us.Pairwise (fun x y => ltL x y = true) → (insR v us).Pairwise fun x y => ltL x y = true
  | [], _ => List.pairwise_singleton _ _
  | z :: zs, h => by
    obtain ⟨h1, h2⟩ := List.pairwise_cons.1 h
    unfold insR
    cases hz : ltL z v with
    | true =>
      refine List.pairwise_cons.2 ⟨fun y hy => ?_, insR_rise h2⟩
      rcases insR_mem.1 hy with rfl | hy
      · exact hz
      · exact h1 y hy
    | false =>
      refine List.pairwise_cons.2 ⟨fun y hy => ?_, h.filter _⟩
      obtain ⟨hy, hne⟩ := List.mem_filter.1 hy
      have hne : y ≠ v := by simpa using hne
      have hvz : ∀ w, ltL w v = false → w ≠ v → ltL v w = true := fun w h1 h2 => by
        cases e : ltL v w with
        | true => rfl
        | false => exact absurd (ltL_eq h1 e) h2
      rcases List.mem_cons.1 hy with rfl | hy
      · exact hvz _ hz hne
      · have hzy := h1 y hy
        refine hvz y ?_ hne
        cases e : ltL y v with
        | false => rfl
        | true => rw [ltL_trans hzy e] at hz; cases hz
theorem rise_eq : ∀ {a b : List Lev}, a.Pairwise (fun x y => ltL x y = true) → b.Pairwise (fun x y => ltL x y = true) → (∀ x, x ∈ a ↔ x ∈ b) → a = b
  | [], [], _, _, _ => rfl
  | [], y :: b, _, _, h => by have := (h y).2 (.head _); cases this
  | x :: a, [], _, _, h => by have := (h x).1 (.head _); cases this
  | x :: a, y :: b, ha, hb, h => by
    obtain ⟨a1, a2⟩ := List.pairwise_cons.1 ha
    obtain ⟨b1, b2⟩ := List.pairwise_cons.1 hb
    have e : x = y := by
      rcases List.mem_cons.1 ((h x).1 (.head _)) with e | e
      · exact e
      · rcases List.mem_cons.1 ((h y).2 (.head _)) with q | q
        · exact q.symm
        · have := ltL_trans (b1 x e) (a1 y q)
          rw [ltL_irr] at this; cases this
    subst e
    rw [rise_eq a2 b2 fun z => ?_]
    constructor
    · intro hz
      rcases List.mem_cons.1 ((h z).1 (.tail _ hz)) with e | e
      · subst e; have := a1 z hz; rw [ltL_irr] at this; cases this
      · exact e
    · intro hz
      rcases List.mem_cons.1 ((h z).2 (.tail _ hz)) with e | e
      · subst e; have := b1 z hz; rw [ltL_irr] at this; cases this
      · exact e
theorem lev_all (vs : List ViewV) : vs.foldl levI [] = dlev (levsV vs) := by
  have key : ∀ (vs : List ViewV) (us : List Lev), us.Pairwise (fun x y => ltL x y = true) → (vs.foldl levI us).Pairwise (fun x y => ltL x y = true) ∧ ∀ x, x ∈ vs.foldl levI us ↔ x ∈ us ∨ x ∈ levsV vs := by
    intro vs
    induction vs with
    | nil => intro us h; exact ⟨h, fun x => by simp [levsV]⟩
    | cons w vs ih =>
      intro us h
      rw [List.foldl_cons]
      unfold levI
      cases hw : toldV w with
      | true =>
        have e : insL (lvV w) us = insR (lvV w) us := ins_go (m := [])
        rw [cond_true, e]
        obtain ⟨i1, i2⟩ := ih _ (insR_rise (v := lvV w) h)
        refine ⟨i1, fun x => (i2 x).trans ?_⟩
        rw [insR_mem]
        have el : levsV (w :: vs) = lvV w :: levsV vs := by unfold levsV; rw [List.filter_cons_of_pos hw]; rfl
        rw [el, List.mem_cons]
        exact ⟨fun h => by rcases h with (h | h) | h <;> simp [h], fun h => by rcases h with h | h | h <;> simp [h]⟩
      | false =>
        have el : levsV (w :: vs) = levsV vs := by unfold levsV; rw [List.filter_cons_of_neg (by rw [hw]; simp)]
        rw [cond_false, el]
        exact ih us h
  obtain ⟨h1, h2⟩ := key vs [] List.Pairwise.nil
  exact rise_eq h1 (dlev_rise _) fun x => by rw [h2, dlev_mem]; simp
def rowLr (ls : List Lev) (b : Nat) : Value := match ls with
  | [] => nilS
  | l :: ls => newL b (ls.length + 1)
theorem rowLr_v (ls : List Lev) (b : Nat) : rowLr ls b = vLv (!ls.isEmpty) b ls.length := by cases ls <;> rfl
theorem rowLr_ok (ls : List Lev) : ok3 (rowLr ls 0) = true := by cases ls <;> rfl
def levRr (vs : List ViewV) : Ans := fun rest => match rest with
  | [] => some (rowLr (dlev (levsV vs)) 0, rowLO (dlev (levsV vs)))
  | _ => none
theorem fin_lr {fn : Func} {N t : Nat} (q : ∀ (v : Value) (O : List Blk) (g : Nat → Value), retVal Try.prog fn (stOf N g [(t, v)] O) = some v) (ls : List Lev) (g : Nat → Value) : FinR fn (rowLr ls 0) (rowLO ls) .ret (stOf N g [(t, rowLr ls 0)] [ownL ls]) := by
  refine ⟨.inr rfl, rfl, q _ _ g, fun B hB => ?_⟩
  cases ls with
  | nil => cases hB
  | cons i ids => cases hB; show (heapOf _ hp0).get 0 = _; rw [heapOf0_get]; rfl
theorem lbx_inert (y : Lev) : inertB (lbx y) = true := rfl
theorem lbx_load {hp : Hp} {b : Nat} {y : Lev} (h : hp.get b = some (lbx y)) : aLoad Try.prog hp.get 42 (pb b 0) = some (lA y) := by
  simp only [aLoad, pb, h, lbx, aggL, sizeL]
  rfl
theorem lidxv {b m i : Nat} (h : i < m) : fstV ((aIndexAddr Try.prog 34 (vLv true b m) (iN i)).map fun v => (v, none)) = some (pb b (i * 3)) := by
  have h1 : (0 : Int) ≤ Int.ofNat i ∧ Int.ofNat i < (m : Int) := ⟨Int.natCast_nonneg i, by simpa using h⟩
  simp only [aIndexAddr, vLv, newL, cond_true, iN, Try.underlying34, sizeL]
  rw [if_pos h1]
  simp [fstV, pb]
theorem insS_len {v : Lev} : ∀ (zs : List Lev) (p : Bool × List Lev), (zs.foldl (insS v) p).2.length ≤ p.2.length + 2 * zs.length
  | [], p => by simp
  | z :: zs, p => by
    rw [List.foldl_cons]
    have h1 := insS_len (v := v) zs (insS v p z)
    have h2 : (insS v p z).2.length ≤ p.2.length + 2 := by
      unfold insS
      cases (!p.1 && decide (ordL v z ≤ Int.ofNat 0)) <;> cases (!(z == v)) <;> simp
    simp only [List.length_cons]; omega
def zl : Lev := (0, 0, 0)
/-- What is owed, each by one of the terms. -/
macro "metc" "[" ts:term,* "]" : tactic => do
  let ts := ts.getElems
  `(tactic| (repeat' (first | exact Go.Proofs.Ytgeoommlmddgpaa.AI.Met.nil | apply Go.Proofs.Ytgeoommlmddgpaa.AI.Met.cons $[| exact $ts]*)))
theorem fx2h {o : Blk} (ho : inertB o = true) (us : List Lev) : ∀ r : List Blk, ∀ i, i < 2 → ∀ o', (o :: ownL us :: r)[i]? = some o' → Fixed 0 o' := fixOO ho (ownL_inert us)
set_option maxHeartbeats 1000000
theorem run22r (vs : List ViewV) (hn : vs.length < 1000000) : ∀ rest v0 O, levRr vs rest = some (v0, O) → RowRun Try.f22 code22r 70 vs rest v0 O := fun rest0 v0 O h => by
  unfold levRr at h
  split at h
  case h_2 => cases h
  cases h
  refine ⟨rowL_out _, rowLr_ok _, (by intro r hr; cases hr), by simp, fun f o c W ho hrow hfl => ?_⟩
  have hkk := kk_len hfl
  have fx2 : ∀ us : List Lev, ∀ r : List Blk, ∀ i, i < 2 → ∀ o', (o :: ownL us :: r)[i]? = some o' → Fixed 0 o' := fun us => fixOO ho (ownL_inert us)
  refine FRwp.seq (Q1 := fun e st => e = .normal ∧ ∃ g, st = stOf 70 g [(0, vS f 0 vs.length c)] [o]) ?_ ?_ (fun x st hne hq => absurd hq.1 hne)
  · cases f with
    | true => exact FRwp.pieceN E22r_ok follows 60 1 _ _ _ _ (lrA_0 true false false false o [] [] [] [] vs.length c 0 0 0 0 zv zl zl (fun _ => nilS)) Met.nil MetH.nil MetE.nil sk22ra rfl rfl (fix11 ho _) fun g => ⟨rfl, g, rfl⟩
    | false =>
      obtain ⟨rfl, rfl⟩ := hfl rfl
      exact FRwp.pieceN E22r_ok follows 60 1 _ _ _ _ (lrAn_0 true false false false .dead [] [] [] [] 0 c 0 0 0 0 zv zl zl (fun _ => nilS)) Met.nil MetH.nil MetE.nil sk22ra rfl rfl (fix11 rfl _) fun g => ⟨rfl, g, rfl⟩
  rintro st ⟨-, g, rfl⟩
  refine FRwp.seq (Q1 := fun e st => e = .normal ∧ ∃ g, st = stOf 70 g [(0, vS f 0 vs.length c), (3, nilS)] [o, .dead]) (FRwp.pieceN E22r_ok follows 60 1 _ _ _ _ (lrB_0 f false false false o [] [] [] [] vs.length c 0 0 0 0 zv zl zl g) Met.nil MetH.nil MetE.nil sk22rb rfl rfl (fix11 ho _) fun g => ⟨rfl, g, rfl⟩) ?_ (fun x st hne hq => absurd hq.1 hne)
  rintro st ⟨-, g, rfl⟩
  let J : List Lev → Nat → (Nat → Value) → St := fun us i g => stOf 70 g [(0, vS f 0 vs.length c), (3, vLv (!us.isEmpty) 1 us.length), (4, iN i)] [o, ownL us]
  refine FRwp.seq (Q1 := fun e st => e = .normal ∧ ∃ g, st = stOf 70 g [(3, vLv (!(dlev (levsV vs)).isEmpty) 0 (dlev (levsV vs)).length)] [ownL (dlev (levsV vs))]) ?_ ?_ (fun x st hne hq => absurd hq.1 hne)
  rotate_left
  · rintro st ⟨-, g, rfl⟩
    generalize dlev (levsV vs) = ls
    have hz := lrZ_0 false (!ls.isEmpty) false false o ls [] [] [] 0 0 ls.length 0 0 0 zv zl zl g
    rw [← rowLr_v] at hz ⊢
    exact FRwp.pieceN E22r_ok follows 60 1 _ _ _ _ hz Met.nil MetH.nil MetE.nil sk22rz rfl rfl (fix11 (ownL_inert ls) _) fun g => fin_lr q22r ls g
  refine FRwp.seq (Q1 := fun e st => e = .normal ∧ ∃ g, st = J [] 0 g) (FRwp.pieceN E22r_ok follows 60 2 _ _ _ _ (lrC_0 f false false false o [] [] [] [] vs.length c 0 0 0 0 zv zl zl g) Met.nil MetH.nil MetE.nil sk22rc rfl rfl (fx2 [] _) fun g => ⟨rfl, g, rfl⟩) ?_ (fun x st hne hq => absurd hq.1 hne)
  rintro st ⟨-, g, rfl⟩
  refine FRwp.mono (fold_loop' (vs := vs) levI [] J (fun us st => ∃ g, st = stOf 70 g [(3, vLv (!us.isEmpty) 0 us.length)] [ownL us]) (fun us g hf => ?_) (fun i x us g hx hlt hf => ?_) g) fun e st q => by rw [lev_all] at q; exact q
  · exact FRwp.seq (Q1 := fun e st => e = .exit 0 ∧ ∃ g, st = stOf 70 g [(3, vLv (!us.isEmpty) 0 us.length)] [ownL us]) (FRwp.pieceN E22r_ok follows 60 1 _ _ _ _ (lrMx_0 f (!us.isEmpty) false false o us [] [] [] vs.length c us.length 0 vs.length 0 zv zl zl g) (Met.cons (ltT (a := vs.length) (b := kk f vs.length) (r := false) (by rw [hkk]; simp)) Met.nil) MetH.nil MetE.nil sk22rM rfl rfl (fix11 (ownL_inert us) _) fun g => ⟨rfl, g, rfl⟩) (fun st h => by cases h.1) (fun e st _ h => h)
  have hft : f = true := by cases f with
    | true => rfl
    | false => rw [(hfl rfl).1] at hlt; simp at hlt
  subst hft
  have hr : ∃ ty ro, o = .cells ty (vrow vs) ro := by
    rcases hrow with h | h
    · rw [h] at hlt; simp at hlt
    · exact h
  have b0 : ∀ r : List Blk, RowAt (heapOf (o :: r) hp0) 0 vs := fun r => rowAt0 hr
  have hul : us.length ≤ i := by
    rw [← hf, lev_all]
    have h1 := ded_len2 (levsV (vs.take i))
    have h2 := levsV_len (vs.take i)
    rw [List.length_take] at h2
    omega
  refine FRwp.seq (Q1 := fun e st => e = .normal ∧ ∃ g, st = J us i g) (FRwp.pieceN E22r_ok follows 60 2 _ _ _ _ (lrM_0 true (!us.isEmpty) false false o us [] [] [] vs.length c us.length 0 i 0 x zl zl g) (Met.cons (ltT (decide_eq_true hlt)) Met.nil) MetH.nil MetE.nil sk22rM rfl rfl (fx2 us _) fun g => ⟨rfl, g, rfl⟩) ?_ (fun x st hne hq => absurd hq.1 hne)
  rintro st ⟨-, g, rfl⟩
  refine FRwp.seq (Q1 := fun e st => e = .normal ∧ ∃ g, st = J (levI us x) i g) ?_ ?_ (fun x st hne hq => absurd hq.1 hne)
  rotate_left
  · rintro st ⟨-, g, rfl⟩
    exact FRwp.pieceN E22r_ok follows 60 2 _ _ _ _ (lrI_0 true (!(levI us x).isEmpty) false false o (levI us x) [] [] [] vs.length c (levI us x).length 0 i 0 x zl zl g) (Met.cons (wrap_up (by omega)) Met.nil) MetH.nil MetE.nil sk22rI rfl rfl (fx2 _ _) fun g => ⟨rfl, g, rfl⟩
  -- not told: out of the block
  cases ht : toldV x with
  | false =>
    have e0 : levI us x = us := by unfold levI; rw [ht]; rfl
    rw [e0]
    refine FRwp.block (FRwp.mono (Q := fun e st => e = .exit 1 ∧ ∃ g, st = J us i g) ?_ fun e st q => by obtain ⟨rfl, q⟩ := q; show (if 1 = 1 then _ else _); rw [if_pos rfl]; exact ⟨rfl, q⟩)
    exact FRwp.seq (Q1 := fun e st => e = .exit 1 ∧ ∃ g, st = J us i g) (FRwp.pieceN E22r_ok follows 60 2 _ _ _ _ (lrX_0 true (!us.isEmpty) false false o us [] [] [] vs.length c us.length 0 i 0 x zl zl g) (Met.cons (bool_ok (by rw [ht]; rfl)) (Met.cons (hload_ok (b0 _) hx) (Met.cons (LtA.vidx_ok hlt) Met.nil))) MetH.nil MetE.nil sk22rX rfl rfl (fx2 us _) fun g => ⟨rfl, g, rfl⟩) (fun st h => by cases h.1) (fun e st _ h => h)
  | true =>
  have e0 : levI us x = insL (lvV x) us := by unfold levI; rw [ht]; rfl
  rw [e0]
  refine FRwp.block (FRwp.mono (Q := fun e st => e = .normal ∧ ∃ g, st = J (insL (lvV x) us) i g) ?_ fun e st q => by obtain ⟨rfl, q⟩ := q; exact ⟨rfl, q⟩)
  refine FRwp.seq (Q1 := fun e st => e = .normal ∧ ∃ g, st = J us i g) (FRwp.pieceN E22r_ok follows 60 2 _ _ _ _ (lrX_1 true (!us.isEmpty) false false o us [] [] [] vs.length c us.length 0 i 0 x zl zl g) (Met.cons (bool_ok (by rw [ht]; rfl)) (Met.cons (hload_ok (b0 _) hx) (Met.cons (LtA.vidx_ok hlt) Met.nil))) MetH.nil MetE.nil sk22rX rfl rfl (fx2 us _) fun g => ⟨rfl, g, rfl⟩) ?_ (fun x st hne hq => absurd hq.1 hne)
  rintro st ⟨-, g, rfl⟩
  refine FRwp.seq (Q1 := fun e st => e = .normal ∧ ∃ g, st = stOf 70 g [(0, vS true 0 vs.length c), (3, vLv (!us.isEmpty) 1 us.length), (4, iN i), (5, pb 2 0)] [o, ownL us, lbx (lvV x)]) (FRwp.pieceN E22r_ok follows 60 2 _ _ _ _ (lrD_0 true (!us.isEmpty) false false o us [] [] [] vs.length c us.length 0 i 0 x zl zl g) (Met.cons (hload_ok (b0 _) hx) (Met.cons (LtA.vidx_ok hlt) Met.nil)) MetH.nil MetE.nil sk22rD rfl rfl (fx2 us _) fun g => ⟨rfl, g, rfl⟩) ?_ (fun x st hne hq => absurd hq.1 hne)
  rintro st ⟨-, g, rfl⟩
  generalize lvV x = y at *
  have fx3 : ∀ r : List Blk, ∀ i, i < 3 → ∀ o', (o :: ownL us :: lbx y :: r)[i]? = some o' → Fixed 0 o' := fixQ3 ho (ownL_inert us) (lbx_inert y)
  have fx4 : ∀ ms : List Lev, ∀ r : List Blk, ∀ i, i < 4 → ∀ o', (o :: ownL us :: lbx y :: ownL ms :: r)[i]? = some o' → Fixed 0 o' := fun ms => fixQ4 ho (ownL_inert us) (lbx_inert y) (ownL_inert ms)
  refine FRwp.seq (Q1 := fun e st => e = .normal ∧ ∃ g, st = stOf 70 g [(0, vS true 0 vs.length c), (3, vLv (!us.isEmpty) 1 us.length), (4, iN i), (5, pb 2 0), (6, nilS)] [o, ownL us, lbx y, .dead]) (FRwp.pieceN E22r_ok follows 60 3 _ _ _ _ (lrE_0 true (!us.isEmpty) false false o us [] [] [] vs.length c us.length 0 i 0 x y zl g) Met.nil MetH.nil MetE.nil sk22rE rfl rfl (fx3 _) fun g => ⟨rfl, g, rfl⟩) ?_ (fun x st hne hq => absurd hq.1 hne)
  rintro st ⟨-, g, rfl⟩
  refine FRwp.seq (Q1 := fun e st => e = .normal ∧ ∃ g, st = stOf 70 g [(0, vS true 0 vs.length c), (3, vLv (!us.isEmpty) 1 us.length), (4, iN i), (5, pb 2 0), (6, nilS), (7, .bool false)] [o, ownL us, lbx y, .dead]) (FRwp.pieceN E22r_ok follows 60 4 _ _ _ _ (lrF_0 true (!us.isEmpty) false false o us [] [] [] vs.length c us.length 0 i 0 x y zl g) Met.nil MetH.nil MetE.nil sk22rF rfl rfl (fx4 [] _) fun g => ⟨rfl, g, rfl⟩) ?_ (fun x st hne hq => absurd hq.1 hne)
  rintro st ⟨-, g, rfl⟩
  let JJ : Bool × List Lev → Nat → (Nat → Value) → St := fun p k g => stOf 70 g [(0, vS true 0 vs.length c), (3, vLv (!us.isEmpty) 1 us.length), (4, iN i), (5, pb 2 0), (6, vLv (!p.2.isEmpty) 3 p.2.length), (7, .bool p.1), (8, iN k)] [o, ownL us, lbx y, ownL p.2]
  have hpl := insS_len (v := y) us (false, [])
  refine FRwp.seq (Q1 := fun e st => e = .normal ∧ ∃ g, st = stOf 70 g [(0, vS true 0 vs.length c), (3, vLv (!us.isEmpty) 1 us.length), (4, iN i), (5, pb 2 0), (6, vLv (!(us.foldl (insS y) (false, [])).2.isEmpty) 3 (us.foldl (insS y) (false, [])).2.length), (7, .bool (us.foldl (insS y) (false, [])).1)] [o, ownL us, lbx y, ownL (us.foldl (insS y) (false, [])).2]) ?_ ?_ (fun x st hne hq => absurd hq.1 hne)
  · refine FRwp.seq (Q1 := fun e st => e = .normal ∧ ∃ g, st = JJ (false, []) 0 g) (FRwp.pieceN E22r_ok follows 60 4 _ _ _ _ (lrH_0 true (!us.isEmpty) false false o us [] [] [] vs.length c us.length 0 i 0 x y zl g) Met.nil MetH.nil MetE.nil sk22rH rfl rfl (fx4 [] _) fun g => ⟨rfl, g, rfl⟩) ?_ (fun x st hne hq => absurd hq.1 hne)
    rintro st ⟨-, g, rfl⟩
    refine fold_loop' (vs := us) (insS y) (false, []) JJ (fun p st => ∃ g, st = stOf 70 g [(0, vS true 0 vs.length c), (3, vLv (!us.isEmpty) 1 us.length), (4, iN i), (5, pb 2 0), (6, vLv (!p.2.isEmpty) 3 p.2.length), (7, .bool p.1)] [o, ownL us, lbx y, ownL p.2]) (fun p g hf => ?_) (fun k z p g hz hk hf => ?_) g
    · exact FRwp.pieceN E22r_ok follows 60 4 _ _ _ _ (lrJx_0 true (!us.isEmpty) (!p.2.isEmpty) p.1 o us p.2 [] [] vs.length c us.length p.2.length i us.length x y zl g) (Met.cons (ltT (a := us.length) (b := kk (!us.isEmpty) us.length) (r := false) (by rw [kkL]; simp)) Met.nil) MetH.nil MetE.nil sk22rJ rfl rfl (fx4 _ _) fun g => ⟨rfl, g, rfl⟩
    have hne : us ≠ [] := fun e => by rw [e] at hz; cases hz
    obtain ⟨b, ms⟩ := p
    have hml : ms.length ≤ 2 * k := by
      have := insS_len (v := y) (us.take k) (false, [])
      rw [hf, List.length_take] at this
      simp at this; omega
    have iz : ∀ r : List Blk, aLoad Try.prog (heapOf (o :: ownL us :: r) hp0).get 42 (pb 1 (k * 3)) = some (lA z) := fun r => lloadb (by rw [heapOf0_get]; rfl) hz
    have iy : ∀ a b : Blk, ∀ r : List Blk, aLoad Try.prog (heapOf (a :: b :: lbx y :: r) hp0).get 42 (pb 2 0) = some (lA y) := fun a b r => lbx_load (by rw [heapOf0_get]; rfl)
    have hx1 := lidxv (b := 1) hk
    have hl := ltT (decide_eq_true hk)
    have hw : (some (Value.int .i64 (wrapF .i64 (Int.ofNat k + Int.ofNat 1)))) = some (iN (k + 1)) := wrap_up (by omega)
    show FRwp Try.prog 70 W k22rJ (stOf 70 g [(0, vS true 0 vs.length c), (3, vLv (!us.isEmpty) 1 us.length), (4, iN i), (5, pb 2 0), (6, vLv (!ms.isEmpty) 3 ms.length), (7, .bool b), (8, iN k)] [o, ownL us, lbx y, ownL ms]) _
    dsimp only [JJ]
    rw [isE_false hne]
    have fa : ∀ m w, ∀ r : List Blk, ∀ i, i < 4 → ∀ o', (o :: ownL us :: lbx y :: lB (m ++ [w]) :: r)[i]? = some o' → Fixed 0 o' := fun m w => by rw [← ownL_ne (neA m w)]; exact fx4 _
    have ap1 : ∀ w, aAppend Try.prog (heapOf [o, ownL us, lbx y, ownL ms, .dead, lbx w] hp0).get 6 [34, 34] [vLv (!ms.isEmpty) 3 ms.length, newL 5 1] = some (newL 6 (ms.length + 1), effF (!ms.isEmpty) 3 (lB (ms ++ [w]))) := fun w =>
      app_lev (b := 3) (b2 := 5) rfl (by rw [heapOf0_get]; rfl) (by rw [heapOf0_get]; rfl) rfl (by omega)
    have le := ordL_le y z
    cases b with
    | true =>
      cases hzy : (!(z == y)) with
      | true =>
        have es : insS y (true, ms) z = (true, ms ++ [z]) := by unfold insS; rw [hzy]; rfl
        rw [es]
        refine FRwp.pieceN E22r_ok follows 60 4 _ _ _ _ (lrJt_0 true true (!ms.isEmpty) true o us ms (ms ++ [z]) [] vs.length c us.length ms.length i k x y z g)
          (Met.cons hw (Met.cons (iz _) (Met.cons hx1 (Met.cons ((neLev z y).trans (bool_ok hzy)) (Met.cons (iy _ _ _) (Met.cons (iz _) (Met.cons hx1 (Met.cons hl Met.nil)))))))) MetH.nil (MetE.cons (ap1 z) MetE.nil) sk22rJ rfl rfl (fa _ _ _) fun g => ⟨rfl, g, ?_⟩
        dsimp only
        rw [isEA, ownL_ne (neA ms z), lenA]; rfl
      | false =>
        have es : insS y (true, ms) z = (true, ms) := by unfold insS; rw [hzy]; rfl
        rw [es]
        exact FRwp.pieceN E22r_ok follows 60 4 _ _ _ _ (lrJt_1 true true (!ms.isEmpty) true o us ms [] [] vs.length c us.length ms.length i k x y z g)
          (Met.cons hw (Met.cons ((neLev z y).trans (bool_ok hzy)) (Met.cons (iy _ _ _) (Met.cons (iz _) (Met.cons hx1 (Met.cons hl Met.nil)))))) MetH.nil MetE.nil sk22rJ rfl rfl (fx4 _ _) fun g => ⟨rfl, g, rfl⟩
    | false =>
      cases hle : decide (ordL y z ≤ Int.ofNat 0) with
      | true =>
        cases hzy : (!(z == y)) with
        | true =>
          have es : insS y (false, ms) z = (true, ms ++ [y] ++ [z]) := by unfold insS; rw [hzy, hle]; rfl
          rw [es]
          refine FRwp.pieceN E22r_ok follows 60 4 _ _ _ _ (lrJf_0 true true (!ms.isEmpty) false o us ms (ms ++ [y]) (ms ++ [y] ++ [z]) vs.length c us.length ms.length i k x y z g)
            (by metc [hw, hl, hx1, iz _, iy _ _ _, bool_ok hle, (neLev z y).trans (bool_ok hzy)]) MetH.nil (MetE.cons (app_lev (b := 6) (b2 := 7) (f := true) (k := ms.length + 1) (ls := ms ++ [y]) (by rw [isEA]) (by rw [heapOf0_get, ownL_ne (neA ms y)]; rfl) (by rw [heapOf0_get]; rfl) (lenA ms y).symm (by omega)) (MetE.cons (ap1 y) MetE.nil)) sk22rJ rfl rfl (fa _ _ _) fun g => ⟨rfl, g, ?_⟩
          dsimp only
          rw [isEA, ownL_ne (neA (ms ++ [y]) z), lenA, lenA]; rfl
        | false =>
          have es : insS y (false, ms) z = (true, ms ++ [y]) := by unfold insS; rw [hzy, hle]; rfl
          rw [es]
          refine FRwp.pieceN E22r_ok follows 60 4 _ _ _ _ (lrJf_1 true true (!ms.isEmpty) false o us ms (ms ++ [y]) ([]) vs.length c us.length ms.length i k x y z g)
            (by metc [hw, hl, hx1, iz _, iy _ _ _, bool_ok hle, (neLev z y).trans (bool_ok hzy)]) MetH.nil (MetE.cons (ap1 y) MetE.nil) sk22rJ rfl rfl (fa _ _ _) fun g => ⟨rfl, g, ?_⟩
          dsimp only
          rw [isEA, ownL_ne (neA ms y), lenA]; rfl
      | false =>
        cases hzy : (!(z == y)) with
        | true =>
          have es : insS y (false, ms) z = (false, ms ++ [z]) := by unfold insS; rw [hzy, hle]; rfl
          rw [es]
          refine FRwp.pieceN E22r_ok follows 60 4 _ _ _ _ (lrJf_2 true true (!ms.isEmpty) false o us ms (ms ++ [z]) ([]) vs.length c us.length ms.length i k x y z g)
            (by metc [hw, hl, hx1, iz _, iy _ _ _, bool_ok hle, (neLev z y).trans (bool_ok hzy)]) MetH.nil (MetE.cons (ap1 z) MetE.nil) sk22rJ rfl rfl (fa _ _ _) fun g => ⟨rfl, g, ?_⟩
          dsimp only
          rw [isEA, ownL_ne (neA ms z), lenA]; rfl
        | false =>
          have es : insS y (false, ms) z = (false, ms) := by unfold insS; rw [hzy, hle]; rfl
          rw [es]
          refine FRwp.pieceN E22r_ok follows 60 4 _ _ _ _ (lrJf_3 true true (!ms.isEmpty) false o us ms ([]) ([]) vs.length c us.length ms.length i k x y z g)
            (by metc [hw, hl, hx1, iz _, iy _ _ _, bool_ok hle, (neLev z y).trans (bool_ok hzy)]) MetH.nil (MetE.nil) sk22rJ rfl rfl (fx4 _ _) fun g => ⟨rfl, g, ?_⟩
          rfl
  rintro st ⟨-, g, rfl⟩
  unfold insL
  generalize us.foldl (insS y) (false, []) = p at *
  obtain ⟨b, ms⟩ := p
  have hml : ms.length ≤ 2 * us.length := by simpa using hpl
  cases b with
  | true =>
    have hk := lrKt_0 true (!us.isEmpty) (!ms.isEmpty) true o us ms [] [] vs.length c us.length ms.length i 0 x y zl g
    exact FRwp.pieceN E22r_ok follows 60 2 _ _ _ _ hk Met.nil MetH.nil MetE.nil sk22rK rfl rfl (fx2h ho ms _) fun g => ⟨rfl, g, rfl⟩
  | false =>
    have ap : aAppend Try.prog (heapOf [o, ownL us, lbx y, ownL ms, .dead, lbx y] hp0).get 6 [34, 34] [vLv (!ms.isEmpty) 3 ms.length, newL 5 1] = some (newL 6 (ms.length + 1), effF (!ms.isEmpty) 3 (lB (ms ++ [y]))) :=
      app_lev (b := 3) (b2 := 5) rfl (by rw [heapOf0_get]; rfl) (by rw [heapOf0_get]; rfl) rfl (by omega)
    refine FRwp.pieceN E22r_ok follows 60 2 _ _ _ _ (lrKf_0 true (!us.isEmpty) (!ms.isEmpty) false o us ms (ms ++ [y]) [] vs.length c us.length ms.length i 0 x y zl g) (Met.cons (lbx_load (by rw [heapOf0_get]; rfl)) Met.nil) MetH.nil (MetE.cons ap MetE.nil) sk22rK rfl rfl (by rw [← ownL_ne (neA ms y)]; exact fx2h ho _ _) fun g => ⟨rfl, g, ?_⟩
    dsimp only [J]
    show _ = stOf 70 g [(0, vS true 0 vs.length c), (3, vLv (!(ms ++ [y]).isEmpty) 1 (ms ++ [y]).length), (4, iN i)] [o, ownL (ms ++ [y])]
    rw [isEA, ownL_ne (neA ms y), lenA]; rfl
noncomputable def G22r : HeapFn := padF (toldR levRr)
theorem hkG22r : CallGoal Try.prog 22 G22r := pad_goal (toldR_goal Try.func22 body22r (by kernel_rfl) ntmps22r fun vs hn => run22r vs hn)
theorem G22r_of {vs : List ViewV} {s : Value} {hp : Hp} (h : TN vs s hp) (hn : vs.length < 1000000) : G22r [s] hp = some (rowLr (dlev (levsV vs)) hp.sz, heapOf [ownL (dlev (levsV vs)), .dead] hp) := by
  unfold G22r
  have e := toldR_of (A := levRr) (rest := []) (v0 := rowLr (dlev (levsV vs)) 0) (O := rowLO (dlev (levsV vs))) h hn rfl
  generalize dlev (levsV vs) = ls at *
  cases ls with
  | nil => exact pad_one e
  | cons l ls =>
    refine pad_two (e.trans ?_)
    show some (sh3 [0] hp.sz (newL 0 _), _) = _
    simp [sh3, sh2, sh1, rho, idxOf, rowLr, newL]; rfl
end Go.Proofs.Ytgeoommlmddgpaa.LtL
