/- thalwegref18.Dir, of: their runs. -/
import Derived.Test.YtgeoommlmddgpaaXaH
import Derived.Test.YtgeoommlmddgpaaXaE
set_option linter.unusedVariables false
set_option linter.unusedSimpArgs false
set_option maxRecDepth 100000
namespace Go.Proofs.Ytgeoommlmddgpaa.LtA
open Go Go.Proofs Go.Proofs.Ytgeoommlmddgpaa.AI Go.RowKit Go.Proofs.Ytgeoommlmddgpaa.Sort Go.Proofs.Ytgeoommlmddgpaa.LtL

noncomputable def E43d : Ext := extG (extH Try.prog [(13, g14)]) [(56, G35)]
noncomputable def fb43d : Code := (Try.f43.body).getD .skip
theorem ntmps43d : Try.f43.ntmps = 75 := by kernel_rfl
noncomputable def k43da : Code := sL (fb43d)
theorem sk43da : codeSafe Try.prog 75 k43da = true := by kernel_rfl
noncomputable def k43db : Code := sL (sR (fb43d))
theorem sk43db : codeSafe Try.prog 75 k43db = true := by kernel_rfl
noncomputable def k43dc : Code := sL (sL (sR (sR (fb43d))))
theorem sk43dc : codeSafe Try.prog 75 k43dc = true := by kernel_rfl
noncomputable def k43dL : Code := unL (unB (sR (sL (sR (sR (fb43d))))))
theorem sk43dL : codeSafe Try.prog 75 k43dL = true := by kernel_rfl
noncomputable def k43dd : Code := sL (sR (sR (sR (fb43d))))
theorem sk43dd : codeSafe Try.prog 75 k43dd = true := by kernel_rfl
noncomputable def k43dM : Code := sL (unL (unB (sL (sR (sR (sR (sR (fb43d))))))))
theorem sk43dM : codeSafe Try.prog 75 k43dM = true := by kernel_rfl
noncomputable def k43de : Code := sL (unB (sR (unL (unB (sL (sR (sR (sR (sR (fb43d))))))))))
theorem sk43de : codeSafe Try.prog 75 k43de = true := by kernel_rfl
noncomputable def k43df : Code := sL (sR (unB (sR (unL (unB (sL (sR (sR (sR (sR (fb43d)))))))))))
theorem sk43df : codeSafe Try.prog 75 k43df = true := by kernel_rfl
noncomputable def k43dg : Code := sL (sR (sR (unB (sR (unL (unB (sL (sR (sR (sR (sR (fb43d))))))))))))
theorem sk43dg : codeSafe Try.prog 75 k43dg = true := by kernel_rfl
noncomputable def k43dh : Code := sL (sL (sR (sR (sR (unB (sR (unL (unB (sL (sR (sR (sR (sR (fb43d))))))))))))))
theorem sk43dh : codeSafe Try.prog 75 k43dh = true := by kernel_rfl
noncomputable def k43dJ : Code := unL (unB (sR (sL (sR (sR (sR (unB (sR (unL (unB (sL (sR (sR (sR (sR (fb43d))))))))))))))))
theorem sk43dJ : codeSafe Try.prog 75 k43dJ = true := by kernel_rfl
noncomputable def k43dk : Code := sR (sR (sR (sR (unB (sR (unL (unB (sL (sR (sR (sR (sR (fb43d)))))))))))))
theorem sk43dk : codeSafe Try.prog 75 k43dk = true := by kernel_rfl
noncomputable def k43dz : Code := sR (sR (sR (sR (sR (fb43d)))))
theorem sk43dz : codeSafe Try.prog 75 k43dz = true := by kernel_rfl
noncomputable abbrev code43d : Code := .seq k43da (.seq k43db (.seq (.seq k43dc (.block 0 (.loop k43dL))) (.seq k43dd (.seq (.block 2 (.loop (.seq k43dM (.block 3 (.seq k43de (.seq k43df (.seq k43dg (.seq (.seq k43dh (.block 4 (.loop k43dJ))) k43dk)))))))) k43dz))))
theorem body43d : Try.f43.body = some code43d := by kernel_rfl
theorem ofA_0 (f fu fo fr b lb : Bool) (o : Blk) (us rs zs : List ViewV) (is ids : List Int) (n c u q r i : Nat) (d : Int) (own x y : ViewV) (g : Nat → Value) : (execN Try.prog (aCall Try.prog E43d 60) (callN Try.prog E43d 60) 60 k43da ⟨tmsOf [vS f 0 n c, hcA own, .int .i64 d] 0 .leaf, heapOf [o, .dead] hp0, []⟩ (acc0 [])).map (fun y => (look2 1 [0, 2] [0, 2, 4] (y.1, y.2.1), y.2.2.q, y.2.2.r, y.2.2.x)) =
    some ((.normal, [o, .cells 24 [.bool own.n, .int .i64 own.t, .int .i64 own.o, .int .i64 own.r, .int .i64 own.d, .int .i64 own.i] false], [(0, vS f 0 n c), (2, .int .i64 d), (4, pb 1 0)], true), [], [], []) := by cases f <;> kernel_rfl
theorem ofAn_0 (f fu fo fr b lb : Bool) (o : Blk) (us rs zs : List ViewV) (is ids : List Int) (n c u q r i : Nat) (d : Int) (own x y : ViewV) (g : Nat → Value) : (execN Try.prog (aCall Try.prog E43d 60) (callN Try.prog E43d 60) 60 k43da ⟨tmsOf [nilS, hcA own, .int .i64 d] 0 .leaf, heapOf [.dead] hp0, []⟩ (acc0 [])).map (fun y => (look2 1 [0, 1] [0, 2, 4] (y.1, y.2.1), y.2.2.q, y.2.2.r, y.2.2.x)) =
    some ((.normal, [.dead, .cells 24 [.bool own.n, .int .i64 own.t, .int .i64 own.o, .int .i64 own.r, .int .i64 own.d, .int .i64 own.i] false], [(0, nilS), (2, .int .i64 d), (4, pb 1 0)], true), [], [], []) := by kernel_rfl
theorem ofB_0 (f fu fo fr b lb : Bool) (o : Blk) (us rs zs : List ViewV) (is ids : List Int) (n c u q r i : Nat) (d : Int) (own x y : ViewV) (g : Nat → Value) : (execN Try.prog (aCall Try.prog E43d 60) (callN Try.prog E43d 60) 60 k43db (stOf 75 g [(0, vS f 0 n c), (2, .int .i64 d), (4, pb 1 0)] [o, (hB own)]) (acc0 [])).map (fun y => (look2 2 [0, 1, 2] [0, 2, 4, 7] (y.1, y.2.1), y.2.2.q, y.2.2.r, y.2.2.x)) =
    some ((.normal, [o, (hB own), .dead], [(0, vS f 0 n c), (2, .int .i64 d), (4, pb 1 0), (7, nilS)], true), [], [], []) := by cases f <;> kernel_rfl
theorem ofC_0 (f fu fo fr b lb : Bool) (o : Blk) (us rs zs : List ViewV) (is ids : List Int) (n c u q r i : Nat) (d : Int) (own x y : ViewV) (g : Nat → Value) : (execN Try.prog (aCall Try.prog E43d 60) (callN Try.prog E43d 60) 60 k43dc (stOf 75 g [(0, vS f 0 n c), (2, .int .i64 d), (4, pb 1 0), (7, nilS)] [o, (hB own), (LtA.ownB us)]) (acc0 [])).map (fun y => (look2 3 [0, 1, 2] [0, 2, 4, 7, 8] (y.1, y.2.1), y.2.2.q, y.2.2.r, y.2.2.x)) =
    some ((.normal, [o, (hB own), (LtA.ownB us)], [(0, vS f 0 n c), (2, .int .i64 d), (4, pb 1 0), (7, nilS), (8, iN 0)], true), [], [], []) := by cases f <;> kernel_rfl
theorem ofLx_0 (f fu fo fr b lb : Bool) (o : Blk) (us rs zs : List ViewV) (is ids : List Int) (n c u q r i : Nat) (d : Int) (own x y : ViewV) (g : Nat → Value) : (execN Try.prog (aCall Try.prog E43d 60) (callN Try.prog E43d 60) 60 k43dL (stOf 75 g [(0, vS f 0 n c), (2, .int .i64 d), (4, pb 1 0), (7, vS fu 2 u 22), (8, iN i)] [o, (hB own), (LtA.ownB us)]) (acc0 [(3, .v (.bool false))])).map (fun y => (look2 1 [2] [7] (y.1, y.2.1), y.2.2.q, y.2.2.r, y.2.2.x)) =
    some ((.exit 0, [(LtA.ownB us)], [(7, vS fu 0 u 22)], true), [(some (.bool (decide ((Int.ofNat i) < (Int.ofNat (kk f n))))), .bool false)], [], []) := by cases f <;> cases fu <;> kernel_rfl
theorem ofL_0 (f fu fo fr b lb : Bool) (o : Blk) (us rs zs : List ViewV) (is ids : List Int) (n c u q r i : Nat) (d : Int) (own x y : ViewV) (g : Nat → Value) : (execN Try.prog (aCall Try.prog E43d 60) (callN Try.prog E43d 60) 60 k43dL (stOf 75 g [(0, vS true 0 n c), (2, .int .i64 d), (4, pb 1 0), (7, vS fu 2 u 22), (8, iN i)] [o, (hB own), (LtA.ownB us)]) (acc0 [(22, .v (iN (i + 1))), (19, .e (.slice (some ⟨5, 0, none⟩) (u + 1) 22) (effF fu 2 (LtA.rowB zs))), (17, .v (.agg ⟨vc x⟩)), (16, .v (pb 0 (i * 7))), (12, .v (.bool true)), (9, .v (hcA x)), (7, .v (pb 0 (i * 7))), (3, .v (.bool true))])).map (fun y => (look2 3 [0, 1, 5] [0, 2, 4, 7, 8] (y.1, y.2.1), y.2.2.q, y.2.2.r, y.2.2.x)) =
    some ((.normal, [o, (hB own), (LtA.rowB zs)], [(0, vS true 0 n c), (2, .int .i64 d), (4, pb 1 0), (7, .slice (some ⟨2, 0, none⟩) (u + 1) 22), (8, iN (i + 1))], true), [(some (.int .i64 (wrapF .i64 (Int.ofNat i + Int.ofNat 1))), iN (i + 1)), (aLoad Try.prog (heapOf [o, (hB own), (LtA.ownB us), .dead] hp0).get 45 (pb 0 (i * 7)), .agg ⟨vc x⟩), (fstV ((aIndexAddr Try.prog 22 (vS true 0 n c) (iN i)).map fun v => (v, none)), pb 0 (i * 7)), (some (.bool ((dirV own x) == d)), .bool true), (aLoad Try.prog (heapOf [o, (hB own), (LtA.ownB us), .dead] hp0).get 24 (pb 0 ((i * 7) + 1)), hcA x), (fstV ((aIndexAddr Try.prog 22 (vS true 0 n c) (iN i)).map fun v => (v, none)), pb 0 (i * 7)), (some (.bool (decide ((Int.ofNat i) < (Int.ofNat (kk true n))))), .bool true)], [], [(aAppend Try.prog (heapOf [o, (hB own), (LtA.ownB us), .dead, .cells 45 [.int .i64 x.id, .bool x.n, .int .i64 x.t, .int .i64 x.o, .int .i64 x.r, .int .i64 x.d, .int .i64 x.i] false] hp0).get 5 [22, 22] [vS fu 2 u 22, .slice (some ⟨4, 0, none⟩) 1 22], (.slice (some ⟨5, 0, none⟩) (u + 1) 22, (effF fu 2 (LtA.rowB zs))))]) := by cases fu <;> kernel_rfl
theorem ofL_1 (f fu fo fr b lb : Bool) (o : Blk) (us rs zs : List ViewV) (is ids : List Int) (n c u q r i : Nat) (d : Int) (own x y : ViewV) (g : Nat → Value) : (execN Try.prog (aCall Try.prog E43d 60) (callN Try.prog E43d 60) 60 k43dL (stOf 75 g [(0, vS true 0 n c), (2, .int .i64 d), (4, pb 1 0), (7, vS fu 2 u 22), (8, iN i)] [o, (hB own), (LtA.ownB us)]) (acc0 [(14, .v (iN (i + 1))), (12, .v (.bool false)), (9, .v (hcA x)), (7, .v (pb 0 (i * 7))), (3, .v (.bool true))])).map (fun y => (look2 3 [0, 1, 2] [0, 2, 4, 7, 8] (y.1, y.2.1), y.2.2.q, y.2.2.r, y.2.2.x)) =
    some ((.normal, [o, (hB own), (LtA.ownB us)], [(0, vS true 0 n c), (2, .int .i64 d), (4, pb 1 0), (7, vS fu 2 u 22), (8, iN (i + 1))], true), [(some (.int .i64 (wrapF .i64 (Int.ofNat i + Int.ofNat 1))), iN (i + 1)), (some (.bool ((dirV own x) == d)), .bool false), (aLoad Try.prog (heapOf [o, (hB own), (LtA.ownB us), .dead] hp0).get 24 (pb 0 ((i * 7) + 1)), hcA x), (fstV ((aIndexAddr Try.prog 22 (vS true 0 n c) (iN i)).map fun v => (v, none)), pb 0 (i * 7)), (some (.bool (decide ((Int.ofNat i) < (Int.ofNat (kk true n))))), .bool true)], [], []) := by cases fu <;> kernel_rfl
theorem ofD_0 (f fu fo fr b lb : Bool) (o : Blk) (us rs zs : List ViewV) (is ids : List Int) (n c u q r i : Nat) (d : Int) (own x y : ViewV) (g : Nat → Value) : (execN Try.prog (aCall Try.prog E43d 60) (callN Try.prog E43d 60) 60 k43dd (stOf 75 g [(7, vS fu 0 u 22)] [(LtA.ownB us)]) (acc0 [])).map (fun y => (look2 1 [0, 1] [7, 9] (y.1, y.2.1), y.2.2.q, y.2.2.r, y.2.2.x)) =
    some ((.normal, [(LtA.ownB us), .dead], [(7, vS fu 0 u 22), (9, nilS)], true), [], [], []) := by cases fu <;> kernel_rfl
theorem ofMx_0 (f fu fo fr b lb : Bool) (o : Blk) (us rs zs : List ViewV) (is ids : List Int) (n c u q r i : Nat) (d : Int) (own x y : ViewV) (g : Nat → Value) : (execN Try.prog (aCall Try.prog E43d 60) (callN Try.prog E43d 60) 60 k43dM (stOf 75 g [(7, vS fu 0 u 22), (9, vI fo 1 q)] [(LtA.ownB us), (ownI is)]) (acc0 [(2, .v (.bool false))])).map (fun y => (look2 1 [1] [9] (y.1, y.2.1), y.2.2.q, y.2.2.r, y.2.2.x)) =
    some ((.exit 2, [(ownI is)], [(9, vI fo 0 q)], true), [(some (.bool (decide ((Int.ofNat (kk fu u)) > (Int.ofNat 0)))), .bool false)], [], []) := by cases fu <;> cases fo <;> kernel_rfl
theorem ofM_0 (f fu fo fr b lb : Bool) (o : Blk) (us rs zs : List ViewV) (is ids : List Int) (n c u q r i : Nat) (d : Int) (own x y : ViewV) (g : Nat → Value) : (execN Try.prog (aCall Try.prog E43d 60) (callN Try.prog E43d 60) 60 k43dM (stOf 75 g [(7, vS true 0 u 22), (9, vI fo 1 q)] [(LtA.ownB us), (ownI is)]) (acc0 [(2, .v (.bool true))])).map (fun y => (look2 2 [0, 1] [7, 9] (y.1, y.2.1), y.2.2.q, y.2.2.r, y.2.2.x)) =
    some ((.normal, [(LtA.ownB us), (ownI is)], [(7, vS true 0 u 22), (9, vI fo 1 q)], true), [(some (.bool (decide ((Int.ofNat (kk true u)) > (Int.ofNat 0)))), .bool true)], [], []) := by cases fo <;> kernel_rfl
theorem ofE_0 (f fu fo fr b lb : Bool) (o : Blk) (us rs zs : List ViewV) (is ids : List Int) (n c u q r i : Nat) (d : Int) (own x y : ViewV) (g : Nat → Value) : (execN Try.prog (aCall Try.prog E43d 60) (callN Try.prog E43d 60) 60 k43de (stOf 75 g [(7, vS true 0 u 22), (9, vI fo 1 q)] [(LtA.ownB us), (ownI is)]) (acc0 [(1, .h (.tuple #[.agg ⟨vc y⟩, .bool lb]) [.dead])])).map (fun y => (look2 3 [0, 1, 4] [7, 9, 10] (y.1, y.2.1), y.2.2.q, y.2.2.r, y.2.2.x)) =
    some ((.normal, [(LtA.ownB us), (ownI is), .cells 45 [.int .i64 y.id, .bool y.n, .int .i64 y.t, .int .i64 y.o, .int .i64 y.r, .int .i64 y.d, .int .i64 y.i] false], [(7, vS true 0 u 22), (9, vI fo 1 q), (10, pb 2 0)], true), [], [(G35 [vS true 0 u 22] (heapOf [(LtA.ownB us), (ownI is), .dead] hp0), (.tuple #[.agg ⟨vc y⟩, .bool lb], heapOf [.dead] (heapOf [(LtA.ownB us), (ownI is), .dead] hp0)))], []) := by cases fo <;> kernel_rfl
theorem ofF_0 (f fu fo fr b lb : Bool) (o : Blk) (us rs zs : List ViewV) (is ids : List Int) (n c u q r i : Nat) (d : Int) (own x y : ViewV) (g : Nat → Value) : (execN Try.prog (aCall Try.prog E43d 60) (callN Try.prog E43d 60) 60 k43df (stOf 75 g [(7, vS true 0 u 22), (9, vI fo 1 q), (10, pb 2 0)] [(LtA.ownB us), (ownI is), (LtA.vB y)]) (acc0 [])).map (fun y => (look2 3 [0, 1, 2, 3] [7, 9, 10, 12] (y.1, y.2.1), y.2.2.q, y.2.2.r, y.2.2.x)) =
    some ((.normal, [(LtA.ownB us), (ownI is), (LtA.vB y), .dead], [(7, vS true 0 u 22), (9, vI fo 1 q), (10, pb 2 0), (12, nilS)], true), [], [], []) := by cases fo <;> kernel_rfl
theorem ofG_0 (f fu fo fr b lb : Bool) (o : Blk) (us rs zs : List ViewV) (is ids : List Int) (n c u q r i : Nat) (d : Int) (own x y : ViewV) (g : Nat → Value) : (execN Try.prog (aCall Try.prog E43d 60) (callN Try.prog E43d 60) 60 k43dg (stOf 75 g [(7, vS true 0 u 22), (9, vI fo 1 q), (10, pb 2 0), (12, nilS)] [(LtA.ownB us), (ownI is), (LtA.vB y), (LtA.ownB rs)]) (acc0 [])).map (fun y => (look2 4 [0, 1, 2, 3] [7, 9, 10, 12, 13] (y.1, y.2.1), y.2.2.q, y.2.2.r, y.2.2.x)) =
    some ((.normal, [(LtA.ownB us), (ownI is), (LtA.vB y), (LtA.ownB rs)], [(7, vS true 0 u 22), (9, vI fo 1 q), (10, pb 2 0), (12, nilS), (13, .bool false)], true), [], [], []) := by cases fo <;> kernel_rfl
theorem ofH_0 (f fu fo fr b lb : Bool) (o : Blk) (us rs zs : List ViewV) (is ids : List Int) (n c u q r i : Nat) (d : Int) (own x y : ViewV) (g : Nat → Value) : (execN Try.prog (aCall Try.prog E43d 60) (callN Try.prog E43d 60) 60 k43dh (stOf 75 g [(7, vS true 0 u 22), (9, vI fo 1 q), (10, pb 2 0), (12, nilS), (13, .bool false)] [(LtA.ownB us), (ownI is), (LtA.vB y), (LtA.ownB rs)]) (acc0 [])).map (fun y => (look2 4 [0, 1, 2, 3] [7, 9, 10, 12, 13, 14] (y.1, y.2.1), y.2.2.q, y.2.2.r, y.2.2.x)) =
    some ((.normal, [(LtA.ownB us), (ownI is), (LtA.vB y), (LtA.ownB rs)], [(7, vS true 0 u 22), (9, vI fo 1 q), (10, pb 2 0), (12, nilS), (13, .bool false), (14, iN 0)], true), [], [], []) := by cases fo <;> kernel_rfl
theorem ofJx_0 (f fu fo fr b lb : Bool) (o : Blk) (us rs zs : List ViewV) (is ids : List Int) (n c u q r i : Nat) (d : Int) (own x y : ViewV) (g : Nat → Value) : (execN Try.prog (aCall Try.prog E43d 60) (callN Try.prog E43d 60) 60 k43dJ (stOf 75 g [(7, vS true 0 u 22), (9, vI fo 1 q), (10, pb 2 0), (12, vS fr 3 r 22), (13, .bool b), (14, iN i)] [(LtA.ownB us), (ownI is), (LtA.vB y), (LtA.ownB rs)]) (acc0 [(3, .v (.bool false))])).map (fun y => (look2 4 [0, 1, 2, 3] [7, 9, 10, 12] (y.1, y.2.1), y.2.2.q, y.2.2.r, y.2.2.x)) =
    some ((.exit 4, [(LtA.ownB us), (ownI is), (LtA.vB y), (LtA.ownB rs)], [(7, vS true 0 u 22), (9, vI fo 1 q), (10, pb 2 0), (12, vS fr 3 r 22)], true), [(some (.bool (decide ((Int.ofNat i) < (Int.ofNat (kk true u))))), .bool false)], [], []) := by cases fo <;> cases fr <;> kernel_rfl
theorem ofJf_0 (f fu fo fr b lb : Bool) (o : Blk) (us rs zs : List ViewV) (is ids : List Int) (n c u q r i : Nat) (d : Int) (own x y : ViewV) (g : Nat → Value) : (execN Try.prog (aCall Try.prog E43d 60) (callN Try.prog E43d 60) 60 k43dJ (stOf 75 g [(7, vS true 0 u 22), (9, vI fo 1 q), (10, pb 2 0), (12, vS fr 3 r 22), (13, .bool false), (14, iN i)] [(LtA.ownB us), (ownI is), (LtA.vB y), (LtA.ownB rs)]) (acc0 [(16, .v (iN (i + 1))), (12, .v (.bool true)), (10, .v (.agg ⟨vc x⟩)), (9, .v (pb 0 (i * 7))), (3, .v (.bool true))])).map (fun y => (look2 4 [0, 1, 2, 3] [7, 9, 10, 12, 13, 14] (y.1, y.2.1), y.2.2.q, y.2.2.r, y.2.2.x)) =
    some ((.normal, [(LtA.ownB us), (ownI is), (LtA.vB y), (LtA.ownB rs)], [(7, vS true 0 u 22), (9, vI fo 1 q), (10, pb 2 0), (12, vS fr 3 r 22), (13, .bool true), (14, iN (i + 1))], true), [(some (.int .i64 (wrapF .i64 (Int.ofNat i + Int.ofNat 1))), iN (i + 1)), (fstV ((aBin Try.prog .eql 45 (.agg ⟨vc x⟩) (.agg ⟨vc y⟩)).map fun v => (v, none)), .bool true), (aLoad Try.prog (heapOf [(LtA.ownB us), (ownI is), (LtA.vB y), (LtA.ownB rs), .dead] hp0).get 45 (pb 0 (i * 7)), .agg ⟨vc x⟩), (fstV ((aIndexAddr Try.prog 22 (vS true 0 u 22) (iN i)).map fun v => (v, none)), pb 0 (i * 7)), (some (.bool (decide ((Int.ofNat i) < (Int.ofNat (kk true u))))), .bool true)], [], []) := by cases fo <;> cases fr <;> kernel_rfl
theorem ofJf_1 (f fu fo fr b lb : Bool) (o : Blk) (us rs zs : List ViewV) (is ids : List Int) (n c u q r i : Nat) (d : Int) (own x y : ViewV) (g : Nat → Value) : (execN Try.prog (aCall Try.prog E43d 60) (callN Try.prog E43d 60) 60 k43dJ (stOf 75 g [(7, vS true 0 u 22), (9, vI fo 1 q), (10, pb 2 0), (12, vS fr 3 r 22), (13, .bool false), (14, iN i)] [(LtA.ownB us), (ownI is), (LtA.vB y), (LtA.ownB rs)]) (acc0 [(23, .v (iN (i + 1))), (20, .e (.slice (some ⟨6, 0, none⟩) (r + 1) 22) (effF fr 3 (LtA.rowB zs))), (18, .v (.agg ⟨vc x⟩)), (17, .v (pb 0 (i * 7))), (12, .v (.bool false)), (10, .v (.agg ⟨vc x⟩)), (9, .v (pb 0 (i * 7))), (3, .v (.bool true))])).map (fun y => (look2 4 [0, 1, 2, 6] [7, 9, 10, 12, 13, 14] (y.1, y.2.1), y.2.2.q, y.2.2.r, y.2.2.x)) =
    some ((.normal, [(LtA.ownB us), (ownI is), (LtA.vB y), (LtA.rowB zs)], [(7, vS true 0 u 22), (9, vI fo 1 q), (10, pb 2 0), (12, .slice (some ⟨3, 0, none⟩) (r + 1) 22), (13, .bool false), (14, iN (i + 1))], true), [(some (.int .i64 (wrapF .i64 (Int.ofNat i + Int.ofNat 1))), iN (i + 1)), (aLoad Try.prog (heapOf [(LtA.ownB us), (ownI is), (LtA.vB y), (LtA.ownB rs), .dead] hp0).get 45 (pb 0 (i * 7)), .agg ⟨vc x⟩), (fstV ((aIndexAddr Try.prog 22 (vS true 0 u 22) (iN i)).map fun v => (v, none)), pb 0 (i * 7)), (fstV ((aBin Try.prog .eql 45 (.agg ⟨vc x⟩) (.agg ⟨vc y⟩)).map fun v => (v, none)), .bool false), (aLoad Try.prog (heapOf [(LtA.ownB us), (ownI is), (LtA.vB y), (LtA.ownB rs), .dead] hp0).get 45 (pb 0 (i * 7)), .agg ⟨vc x⟩), (fstV ((aIndexAddr Try.prog 22 (vS true 0 u 22) (iN i)).map fun v => (v, none)), pb 0 (i * 7)), (some (.bool (decide ((Int.ofNat i) < (Int.ofNat (kk true u))))), .bool true)], [], [(aAppend Try.prog (heapOf [(LtA.ownB us), (ownI is), (LtA.vB y), (LtA.ownB rs), .dead, .cells 45 [.int .i64 x.id, .bool x.n, .int .i64 x.t, .int .i64 x.o, .int .i64 x.r, .int .i64 x.d, .int .i64 x.i] false] hp0).get 6 [22, 22] [vS fr 3 r 22, .slice (some ⟨5, 0, none⟩) 1 22], (.slice (some ⟨6, 0, none⟩) (r + 1) 22, (effF fr 3 (LtA.rowB zs))))]) := by cases fo <;> cases fr <;> kernel_rfl
theorem ofJt_0 (f fu fo fr b lb : Bool) (o : Blk) (us rs zs : List ViewV) (is ids : List Int) (n c u q r i : Nat) (d : Int) (own x y : ViewV) (g : Nat → Value) : (execN Try.prog (aCall Try.prog E43d 60) (callN Try.prog E43d 60) 60 k43dJ (stOf 75 g [(7, vS true 0 u 22), (9, vI fo 1 q), (10, pb 2 0), (12, vS fr 3 r 22), (13, .bool true), (14, iN i)] [(LtA.ownB us), (ownI is), (LtA.vB y), (LtA.ownB rs)]) (acc0 [(17, .v (iN (i + 1))), (14, .e (.slice (some ⟨6, 0, none⟩) (r + 1) 22) (effF fr 3 (LtA.rowB zs))), (12, .v (.agg ⟨vc x⟩)), (11, .v (pb 0 (i * 7))), (3, .v (.bool true))])).map (fun y => (look2 4 [0, 1, 2, 6] [7, 9, 10, 12, 13, 14] (y.1, y.2.1), y.2.2.q, y.2.2.r, y.2.2.x)) =
    some ((.normal, [(LtA.ownB us), (ownI is), (LtA.vB y), (LtA.rowB zs)], [(7, vS true 0 u 22), (9, vI fo 1 q), (10, pb 2 0), (12, .slice (some ⟨3, 0, none⟩) (r + 1) 22), (13, .bool true), (14, iN (i + 1))], true), [(some (.int .i64 (wrapF .i64 (Int.ofNat i + Int.ofNat 1))), iN (i + 1)), (aLoad Try.prog (heapOf [(LtA.ownB us), (ownI is), (LtA.vB y), (LtA.ownB rs), .dead] hp0).get 45 (pb 0 (i * 7)), .agg ⟨vc x⟩), (fstV ((aIndexAddr Try.prog 22 (vS true 0 u 22) (iN i)).map fun v => (v, none)), pb 0 (i * 7)), (some (.bool (decide ((Int.ofNat i) < (Int.ofNat (kk true u))))), .bool true)], [], [(aAppend Try.prog (heapOf [(LtA.ownB us), (ownI is), (LtA.vB y), (LtA.ownB rs), .dead, .cells 45 [.int .i64 x.id, .bool x.n, .int .i64 x.t, .int .i64 x.o, .int .i64 x.r, .int .i64 x.d, .int .i64 x.i] false] hp0).get 6 [22, 22] [vS fr 3 r 22, .slice (some ⟨5, 0, none⟩) 1 22], (.slice (some ⟨6, 0, none⟩) (r + 1) 22, (effF fr 3 (LtA.rowB zs))))]) := by cases fo <;> cases fr <;> kernel_rfl
theorem ofK_0 (f fu fo fr b lb : Bool) (o : Blk) (us rs zs : List ViewV) (is ids : List Int) (n c u q r i : Nat) (d : Int) (own x y : ViewV) (g : Nat → Value) : (execN Try.prog (aCall Try.prog E43d 60) (callN Try.prog E43d 60) 60 k43dk (stOf 75 g [(7, vS true 0 u 22), (9, vI fo 1 q), (10, pb 2 0), (12, vS fr 3 r 22)] [(LtA.ownB us), (ownI is), (LtA.vB y), (LtA.ownB rs)]) (acc0 [(4, .e (.slice (some ⟨6, 0, none⟩) (q + 1) 4) (effF fo 1 (iB ids)))])).map (fun y => (look2 2 [3, 6] [7, 9] (y.1, y.2.1), y.2.2.q, y.2.2.r, y.2.2.x)) =
    some ((.normal, [(LtA.ownB rs), (iB ids)], [(7, vS fr 0 r 22), (9, .slice (some ⟨1, 0, none⟩) (q + 1) 4)], true), [], [], [(aAppend Try.prog (heapOf [(LtA.ownB us), (ownI is), (LtA.vB y), (LtA.ownB rs), .dead, .cells 3 [.int .i64 y.id] false] hp0).get 6 [30, 30] [vI fo 1 q, .slice (some ⟨5, 0, none⟩) 1 4], (.slice (some ⟨6, 0, none⟩) (q + 1) 4, (effF fo 1 (iB ids))))]) := by cases fo <;> cases fr <;> kernel_rfl
theorem ofZ_0 (f fu fo fr b lb : Bool) (o : Blk) (us rs zs : List ViewV) (is ids : List Int) (n c u q r i : Nat) (d : Int) (own x y : ViewV) (g : Nat → Value) : (execN Try.prog (aCall Try.prog E43d 60) (callN Try.prog E43d 60) 60 k43dz (stOf 75 g [(9, vI fo 0 q)] [(ownI is)]) (acc0 [])).map (fun y => (look2 1 [0] [6] (y.1, y.2.1), y.2.2.q, y.2.2.r, y.2.2.x)) =
    some ((.ret, [(ownI is)], [(6, vI fo 0 q)], true), [], [], []) := by cases fo <;> kernel_rfl
theorem q43d (v : Value) (O : List Blk) (g : Nat → Value) : retVal Try.prog Try.f43 (stOf 75 g [(6, v)] O) = some v := by kernel_rfl
end Go.Proofs.Ytgeoommlmddgpaa.LtA
namespace Go.Proofs.Ytgeoommlmddgpaa.LtA
open Go Go.Proofs Go.Proofs.Ytgeoommlmddgpaa.AI Go.RowKit Go.Proofs.Ytgeoommlmddgpaa.Sort Go.Proofs.Ytgeoommlmddgpaa.LtL

theorem insB_front {α : Type} {lt : α → α → Bool} {S : List α} {x : α} (h : ∀ z ∈ S, lt x z = true) : insB lt S x = x :: S :=
  insB_of (P := []) (Q := S) rfl h fun p hp => by cases hp
theorem insB_cons {α : Type} {lt : α → α → Bool} {S : List α} {x z : α} (h : lt z x = false) : insB lt (x :: S) z = x :: insB lt S z := by
  -- the tail that z goes ahead of
  obtain ⟨P, Q, rfl, hQ, hP⟩ : ∃ P Q, S = P ++ Q ∧ (∀ q ∈ Q, lt z q = true) ∧ ∀ p, P.getLast? = some p → lt z p = false := by
    refine ⟨(S.reverse.dropWhile (lt z)).reverse, (S.reverse.takeWhile (lt z)).reverse, ?_, fun q hq => ?_, fun p hp => ?_⟩
    · rw [← List.reverse_append, List.takeWhile_append_dropWhile, List.reverse_reverse]
    · exact List.all_eq_true.1 (List.all_takeWhile (p := lt z) (l := S.reverse)) q (List.mem_reverse.1 hq)
    · rw [List.getLast?_reverse] at hp
      cases e : S.reverse.dropWhile (lt z) with
      | nil => rw [e] at hp; cases hp
      | cons a tl =>
        rw [e] at hp
        have : a = p := by simpa using hp
        subst this
        have hh := List.head_dropWhile_not (lt z) (l := S.reverse) (by rw [e]; simp)
        simpa [e] using hh
  rw [insB_of rfl hQ hP]
  refine insB_of (P := x :: P) rfl hQ fun p hp => ?_
  cases P with
  | nil => have : x = p := by simpa using hp
           subst this; exact h
  | cons a tl => exact hP p (by rw [List.getLast?_cons_cons] at hp; exact hp)
theorem mrg_cons {α : Type} {lt : α → α → Bool} {x : α} : ∀ {B S : List α}, (∀ z ∈ B, lt z x = false) → mrg lt (x :: S) B = x :: mrg lt S B
  | [], S, _ => rfl
  | b :: B, S, h => by
    show mrg lt (insB lt (x :: S) b) B = x :: mrg lt (insB lt S b) B
    rw [insB_cons (h b (.head _)), mrg_cons fun z hz => h z (.tail _ hz)]
/-- The first one of the lowest goes ahead. -/
theorem ssort_low {A B : List ViewV} {x : ViewV} (hA : ∀ z ∈ A, ltV x z = true) (hB : ∀ z ∈ B, ltV z x = false) : ssort ltV (A ++ x :: B) = x :: ssort ltV (A ++ B) := by
  have e : A ++ x :: B = (A ++ [x]) ++ B := by simp
  rw [e]
  unfold ssort
  rw [mrg_append (R1 := A ++ [x])]
  have e2 : mrg ltV [] (A ++ [x]) = x :: mrg ltV [] A := by
    have := ssort_snoc (lt := ltV) (S := A) (x := x)
    unfold ssort at this
    rw [this]
    exact insB_front fun z hz => hA z (mem_ssort.1 hz)
  rw [e2, mrg_cons hB, mrg_append]
theorem low_lead {us : List ViewV} (hne : us ≠ []) (hK : ∀ z ∈ us, Kn z) : ∃ A x B, us = A ++ x :: B ∧ lowV us = (x, true) ∧ (∀ z ∈ A, ltV x z = true) ∧ ∀ z ∈ B, ltV z x = false := by
  have key : ∀ n (us : List ViewV), us.length = n + 1 → (∀ z ∈ us, Kn z) → ∃ A x B, us = A ++ x :: B ∧ lowV us = (x, true) ∧ (∀ z ∈ A, ltV x z = true) ∧ ∀ z ∈ B, ltV z x = false := by
    intro n
    induction n with
    | zero =>
      intro us hl hK
      match us, hl with
      | [w], _ =>
        have hw : toldV w = true := toldV_kn.2 (hK w (by simp))
        refine ⟨[], w, [], rfl, ?_, (fun z hz => by cases hz), fun z hz => by cases hz⟩
        show lowS (zeroV 0, false) w = _
        unfold lowS; rw [hw]; rfl
    | succ n ih =>
      intro us hl hK
      obtain ⟨vs, w, rfl⟩ : ∃ vs w, us = vs ++ [w] := by
        rcases List.eq_nil_or_concat us with rfl | ⟨vs, w, h⟩
        · simp at hl
        · exact ⟨vs, w, by rw [h, List.concat_eq_append]⟩
      obtain ⟨A, x, B, h1, h2, h3, h4⟩ := ih vs (by simpa using hl) fun z hz => hK z (by simp [hz])
      have hw : toldV w = true := toldV_kn.2 (hK w (by simp))
      have kw : Kn w := hK w (by simp)
      have e : lowV (vs ++ [w]) = lowS (x, true) w := by unfold lowV at h2 ⊢; rw [List.foldl_append, h2]; rfl
      have kx : Kn x := hK x (by rw [h1]; simp)
      have kz : ∀ z ∈ vs, Kn z := fun z hz => hK z (by simp [hz])
      cases hl2 : ltV w x with
      | true =>
        refine ⟨vs, w, [], rfl, ?_, fun z hz => ?_, fun z hz => by cases hz⟩
        · rw [e]; unfold lowS; simp only [hw, hl2]; rfl
        · have hz0 := hz
          rw [h1] at hz
          rcases List.mem_append.1 hz with hz | hz
          · exact sw.trans kw kx (kz z hz0) hl2 (h3 z hz)
          · rcases List.mem_cons.1 hz with rfl | hz
            · exact hl2
            · cases e2 : ltV w z with
              | true => rfl
              | false => rw [sw.ntr w z x kw (kz z hz0) kx e2 (h4 z hz)] at hl2; cases hl2
      | false =>
        refine ⟨A, x, B ++ [w], by rw [h1]; simp, ?_, h3, fun z hz => ?_⟩
        · rw [e]; unfold lowS; simp only [hw, hl2]; rfl
        · rcases List.mem_append.1 hz with hz | hz
          · exact h4 z hz
          · have : z = w := by simpa using hz
            subst this; exact hl2
  obtain ⟨n, hn⟩ : ∃ n, us.length = n + 1 := ⟨us.length - 1, by have := List.length_pos_iff.2 hne; omega⟩
  exact key n us hn hK
theorem sameV_iff {u v : ViewV} : sameV u v = true ↔ u = v := by
  obtain ⟨a, b, c, d, e, f, g⟩ := u
  obtain ⟨a', b', c', d', e', f', g'⟩ := v
  unfold sameV same23
  simp [and_assoc]
/-- All but the first one that is such. -/
def rmS (y : ViewV) (p : Bool × List ViewV) (x : ViewV) : Bool × List ViewV := bif !p.1 && sameV x y then (true, p.2) else (p.1, p.2 ++ [x])
theorem rm_done {y : ViewV} : ∀ {B r : List ViewV}, B.foldl (rmS y) (true, r) = (true, r ++ B)
  | [], r => by simp
  | b :: B, r => by
    rw [List.foldl_cons]
    show B.foldl (rmS y) (true, r ++ [b]) = _
    rw [rm_done]; simp
theorem rm_keep {y : ViewV} : ∀ {A r : List ViewV}, (∀ z ∈ A, sameV z y = false) → A.foldl (rmS y) (false, r) = (false, r ++ A)
  | [], r, _ => by simp
  | a :: A, r, h => by
    rw [List.foldl_cons]
    have e : rmS y (false, r) a = (false, r ++ [a]) := by unfold rmS; simp only [h a (.head _)]; rfl
    rw [e, rm_keep fun z hz => h z (.tail _ hz)]; simp
theorem rm_low {A B : List ViewV} {x : ViewV} (hk : Kn x) (hA : ∀ z ∈ A, ltV x z = true) : (A ++ x :: B).foldl (rmS x) (false, []) = (true, A ++ B) := by
  rw [List.foldl_append, rm_keep fun z hz => by
    cases e : sameV z x with
    | false => rfl
    | true =>
      have := sameV_iff.1 e
      subst this
      have h1 := hA z hz
      rw [sw.irr hk] at h1; cases h1]
  rw [List.foldl_cons]
  have e : rmS x (false, [] ++ A) x = (true, [] ++ A) := by
    unfold rmS
    have : sameV x x = true := sameV_iff.2 rfl
    simp only [this]; rfl
  rw [e, rm_done]; simp
/-- Those that are left. -/
def rest (us : List ViewV) : List ViewV := (us.foldl (rmS (lowV us).1) (false, [])).2
theorem rest_of {us : List ViewV} (hne : us ≠ []) (hK : ∀ z ∈ us, Kn z) : (lowV us).1.id :: (ssort ltV (rest us)).map (fun x => x.id) = (ssort ltV us).map (fun x => x.id) ∧ (rest us).length < us.length ∧ ∀ z ∈ rest us, Kn z := by
  obtain ⟨A, x, B, h1, h2, h3, h4⟩ := low_lead hne hK
  have hk : Kn x := hK x (by rw [h1]; simp)
  have e : rest us = A ++ B := by unfold rest; rw [h2, h1]; show (List.foldl (rmS x) _ _).2 = _; rw [rm_low hk h3]
  rw [e, h2]
  refine ⟨?_, by rw [h1]; simp, fun z hz => hK z (by rw [h1]; rcases List.mem_append.1 hz with h | h <;> simp [h])⟩
  rw [h1, ssort_low h3 h4]; rfl
end Go.Proofs.Ytgeoommlmddgpaa.LtA
namespace Go.Proofs.Ytgeoommlmddgpaa.LtA
open Go Go.Proofs Go.Proofs.Ytgeoommlmddgpaa.AI Go.RowKit Go.Proofs.Ytgeoommlmddgpaa.Sort Go.Proofs.Ytgeoommlmddgpaa.LtL

noncomputable def EDir : Ext := extH Try.prog [(40, g64), (41, g17)]
theorem EDir_ok : ExtOk Try.prog EDir := extH_ok (.cons hk64 (.cons hk65 .nil))
noncomputable def fbDir : Code := (Try.f13.body).getD .skip
theorem bodyDir : Try.f13.body = some fbDir := by kernel_rfl
theorem ntDir : Try.f13.ntmps = 19 := by kernel_rfl
theorem sDir : codeSafe Try.prog 19 fbDir = true := by kernel_rfl
theorem qDir (v : Value) (O : List Blk) (g : Nat → Value) : retVal Try.prog Try.f13 (stOf 19 g [(4, v)] O) = some v := by kernel_rfl
theorem dirV_eq (own x : ViewV) : dirV own x = bif toldV x then (bif toldV own then (bif ltV x own then 1 else bif ltV own x then 2 else 0) else 1) else 0 := rfl
theorem rDir_0 (own x : ViewV) : (execN Try.prog (aCall Try.prog EDir 6) (callN Try.prog EDir 6) 60 fbDir ⟨tmsOf [hcA own, hcA x] 0 .leaf, hp0, []⟩ (acc0 [(5, .v (.bool true))])).map (fun y => (look2 0 [] [4] (y.1, y.2.1), y.2.2.q, y.2.2.r, y.2.2.x)) =
    some ((.ret, [], [(4, iN 0)], true), [(some (.bool (!(toldV x))), .bool true)], [], []) := by kernel_rfl
theorem rDir_1 (own x : ViewV) : (execN Try.prog (aCall Try.prog EDir 6) (callN Try.prog EDir 6) 60 fbDir ⟨tmsOf [hcA own, hcA x] 0 .leaf, hp0, []⟩ (acc0 [(8, .v (.bool true)), (5, .v (.bool false))])).map (fun y => (look2 0 [] [4] (y.1, y.2.1), y.2.2.q, y.2.2.r, y.2.2.x)) =
    some ((.ret, [], [(4, iN 1)], true), [(some (.bool (!(toldV own))), .bool true), (some (.bool (!(toldV x))), .bool false)], [], []) := by kernel_rfl
theorem rDir_2 (own x : ViewV) : (execN Try.prog (aCall Try.prog EDir 6) (callN Try.prog EDir 6) 60 fbDir ⟨tmsOf [hcA own, hcA x] 0 .leaf, hp0, []⟩ (acc0 [(12, .v (.bool true)), (8, .v (.bool false)), (5, .v (.bool false))])).map (fun y => (look2 0 [] [4] (y.1, y.2.1), y.2.2.q, y.2.2.r, y.2.2.x)) =
    some ((.ret, [], [(4, iN 1)], true), [(some (.bool (ltV x own)), .bool true), (some (.bool (!(toldV own))), .bool false), (some (.bool (!(toldV x))), .bool false)], [], []) := by kernel_rfl
theorem rDir_3 (own x : ViewV) : (execN Try.prog (aCall Try.prog EDir 6) (callN Try.prog EDir 6) 60 fbDir ⟨tmsOf [hcA own, hcA x] 0 .leaf, hp0, []⟩ (acc0 [(16, .v (.bool true)), (12, .v (.bool false)), (8, .v (.bool false)), (5, .v (.bool false))])).map (fun y => (look2 0 [] [4] (y.1, y.2.1), y.2.2.q, y.2.2.r, y.2.2.x)) =
    some ((.ret, [], [(4, iN 2)], true), [(some (.bool (ltV own x)), .bool true), (some (.bool (ltV x own)), .bool false), (some (.bool (!(toldV own))), .bool false), (some (.bool (!(toldV x))), .bool false)], [], []) := by kernel_rfl
theorem rDir_4 (own x : ViewV) : (execN Try.prog (aCall Try.prog EDir 6) (callN Try.prog EDir 6) 60 fbDir ⟨tmsOf [hcA own, hcA x] 0 .leaf, hp0, []⟩ (acc0 [(16, .v (.bool false)), (12, .v (.bool false)), (8, .v (.bool false)), (5, .v (.bool false))])).map (fun y => (look2 0 [] [4] (y.1, y.2.1), y.2.2.q, y.2.2.r, y.2.2.x)) =
    some ((.ret, [], [(4, iN 0)], true), [(some (.bool (ltV own x)), .bool false), (some (.bool (ltV x own)), .bool false), (some (.bool (!(toldV own))), .bool false), (some (.bool (!(toldV x))), .bool false)], [], []) := by kernel_rfl

theorem frDir (own x : ViewV) (W : Base) : FRwp Try.prog 19 W fbDir ⟨tmsOf [hcA own, hcA x] 0 .leaf, hp0, []⟩ (fun e st => (e = .normal ∨ e = .ret) ∧ st.df = [] ∧ retVal Try.prog Try.f13 st = some (.int .i64 (dirV own x))) := by
  cases h_5 : (!(toldV x)) with
  | true =>
    exact FRwp.pieceN EDir_ok follows 6 0 _ _ _ _ (rDir_0 own x) (Met.cons (bool_ok h_5) Met.nil) (MetH.nil) (MetE.nil) sDir rfl rfl (noFix _) fun g => ⟨.inr rfl, rfl, (qDir _ _ g).trans (by simp only [Bool.not_eq_true', Bool.not_eq_false'] at *; simp [dirV_eq, iN, *])⟩
  | false =>
    cases h_8 : (!(toldV own)) with
    | true =>
      exact FRwp.pieceN EDir_ok follows 6 0 _ _ _ _ (rDir_1 own x) (Met.cons (bool_ok h_8) (Met.cons (bool_ok h_5) Met.nil)) (MetH.nil) (MetE.nil) sDir rfl rfl (noFix _) fun g => ⟨.inr rfl, rfl, (qDir _ _ g).trans (by simp only [Bool.not_eq_true', Bool.not_eq_false'] at *; simp [dirV_eq, iN, *])⟩
    | false =>
      cases h_12 : (ltV x own) with
      | true =>
        exact FRwp.pieceN EDir_ok follows 6 0 _ _ _ _ (rDir_2 own x) (Met.cons (bool_ok h_12) (Met.cons (bool_ok h_8) (Met.cons (bool_ok h_5) Met.nil))) (MetH.nil) (MetE.nil) sDir rfl rfl (noFix _) fun g => ⟨.inr rfl, rfl, (qDir _ _ g).trans (by simp only [Bool.not_eq_true', Bool.not_eq_false'] at *; simp [dirV_eq, iN, *])⟩
      | false =>
        cases h_16 : (ltV own x) with
        | true =>
          exact FRwp.pieceN EDir_ok follows 6 0 _ _ _ _ (rDir_3 own x) (Met.cons (bool_ok h_16) (Met.cons (bool_ok h_12) (Met.cons (bool_ok h_8) (Met.cons (bool_ok h_5) Met.nil)))) (MetH.nil) (MetE.nil) sDir rfl rfl (noFix _) fun g => ⟨.inr rfl, rfl, (qDir _ _ g).trans (by simp only [Bool.not_eq_true', Bool.not_eq_false'] at *; simp [dirV_eq, iN, *])⟩
        | false =>
          exact FRwp.pieceN EDir_ok follows 6 0 _ _ _ _ (rDir_4 own x) (Met.cons (bool_ok h_16) (Met.cons (bool_ok h_12) (Met.cons (bool_ok h_8) (Met.cons (bool_ok h_5) Met.nil)))) (MetH.nil) (MetE.nil) sDir rfl rfl (noFix _) fun g => ⟨.inr rfl, rfl, (qDir _ _ g).trans (by simp only [Bool.not_eq_true', Bool.not_eq_false'] at *; simp [dirV_eq, iN, *])⟩

theorem hkDir : HookGoal Try.prog 13 g14 := hook_fr Try.func13 (by kernel_rfl) bodyDir ntDir fun args v h => by
  unfold g14 at h
  split at h
  · rename_i c0 c1
    split at h
    · rename_i hn ht ho hr hd hi kn kt ko kr kd ki ec0 ec1
      cases h
      obtain rfl := arr_of ec0
      obtain rfl := arr_of ec1
      exact ⟨rfl, rfl, by simp, fun W => frDir ⟨0, hn, ht, ho, hr, hd, hi⟩ ⟨0, kn, kt, ko, kr, kd, ki⟩ W⟩
    · cases h
  · cases h
theorem E43d_ok : ExtOk Try.prog E43d := extG_ok (extH_ok (.cons hkDir .nil)) (.cons hkG35 .nil)

theorem ltT : ∀ {a b : Nat} {r : Bool}, decide (a < b) = r → (some (Value.bool (decide (Int.ofNat a < Int.ofNat b)))) = some (.bool r) := fun {a b r} h => bool_ok (by rw [← h]; exact decide_eq_decide.2 (by simp only [Int.ofNat_eq_natCast]; omega))
theorem gtT : ∀ {a b : Nat} {r : Bool}, decide (a > b) = r → (some (Value.bool (decide (Int.ofNat a > Int.ofNat b)))) = some (.bool r) := fun {a b r} h => bool_ok (by rw [← h]; exact decide_eq_decide.2 (by simp only [Int.ofNat_eq_natCast]; omega))
theorem fixQ4 {o ob oc od : Blk} (ho : inertB o = true) (hob : inertB ob = true) (hoc : inertB oc = true) (hod : inertB od = true) : ∀ r : List Blk, ∀ i, i < 4 → ∀ o', (o :: ob :: oc :: od :: r)[i]? = some o' → Fixed 0 o' := by
  intro r i hi o' h
  match i, hi with
  | 0, _ => simp at h; subst h; exact inert_fixed ho 0
  | 1, _ => simp at h; subst h; exact inert_fixed hob 0
  | 2, _ => simp at h; subst h; exact inert_fixed hoc 0
  | 3, _ => simp at h; subst h; exact inert_fixed hod 0
theorem fixQ3 {o ob oc : Blk} (ho : inertB o = true) (hob : inertB ob = true) (hoc : inertB oc = true) : ∀ r : List Blk, ∀ i, i < 3 → ∀ o', (o :: ob :: oc :: r)[i]? = some o' → Fixed 0 o' := by
  intro r i hi o' h
  match i, hi with
  | 0, _ => simp at h; subst h; exact inert_fixed ho 0
  | 1, _ => simp at h; subst h; exact inert_fixed hob 0
  | 2, _ => simp at h; subst h; exact inert_fixed hoc 0
theorem eql34 (u v : ViewV) : fstV ((aBin Try.prog .eql 45 (.agg ⟨vc u⟩) (.agg ⟨vc v⟩)).map fun v => (v, none)) = some (.bool (sameV u v)) := by
  have h : aBin Try.prog .eql 45 (.agg ⟨vc u⟩) (.agg ⟨vc v⟩) =
      (andE (u.id == v.id) (bindE (andE (u.n == v.n) (andE (u.t == v.t) (andE (u.o == v.o) (andE (u.r == v.r) (andE (u.d == v.d) (andE (u.i == v.i) (some true))))))) (some true))).map fun b => .bool b := by kernel_rfl
  rw [h]
  simp only [andE_some]
  unfold sameV same23
  generalize (u.n == v.n && (u.t == v.t && (u.o == v.o && (u.r == v.r && (u.d == v.d && (u.i == v.i && true)))))) = x
  generalize (u.id == v.id) = y
  cases x <;> cases y <;> rfl
theorem vB_inert (y : ViewV) : inertB (LtA.vB y) = true := rfl
theorem hB_inert (y : ViewV) : inertB (hB y) = true := rfl
theorem isEA {α : Type} (l : List α) (x : α) : (!(l ++ [x]).isEmpty) = true := isE_false (by simp)
theorem neA {α : Type} (l : List α) (x : α) : l ++ [x] ≠ [] := by simp
theorem lenA {α : Type} (l : List α) (x : α) : (l ++ [x]).length = l.length + 1 := by simp
def zv : ViewV := ⟨0, false, 0, 0, 0, 0, 0⟩
set_option maxHeartbeats 1000000
theorem runG (vs : List ViewV) (hn : vs.length < 1000000) : ∀ rest v0 O, ofR vs rest = some (v0, O) → RowRun Try.f43 code43d 75 vs rest v0 O := fun rest0 v0 O h => by
  unfold ofR at h
  split at h
  case h_2 => cases h
  rename_i v d
  split at h
  case isFalse => cases h
  rename_i hd
  obtain ⟨own, hown, h2⟩ := Option.map_eq_some_iff.1 h
  obtain rfl := unH_some hown
  cases h2
  refine ⟨rowI_out _, rowI_ok _, (by intro r hr; have e : r = hcA own ∨ r = .int .i64 d := (by simpa using hr); rcases e with e | e <;> rw [e]; exact stay_h _; exact stay_int _ _), by simp, fun f o c W ho hrow hfl => ?_⟩
  have hkk := kk_len hfl
  have fx2 : ∀ r : List Blk, ∀ i, i < 2 → ∀ o', (o :: hB own :: r)[i]? = some o' → Fixed 0 o' := fixOO ho (hB_inert own)
  have fx3 : ∀ us : List ViewV, ∀ r : List Blk, ∀ i, i < 3 → ∀ o', (o :: hB own :: LtA.ownB us :: r)[i]? = some o' → Fixed 0 o' := fun us => fixQ3 ho (hB_inert own) (LtA.ownB_inert us)
  refine FRwp.seq (Q1 := fun e st => e = .normal ∧ ∃ g, st = stOf 75 g [(0, vS f 0 vs.length c), (2, .int .i64 d), (4, pb 1 0)] [o, hB own]) ?_ ?_ (fun x st hne hq => absurd hq.1 hne)
  · cases f with
    | true => exact FRwp.pieceN E43d_ok follows 60 1 _ _ _ _ (ofA_0 true false false false false false o [] [] [] [] [] vs.length c 0 0 0 0 d own zv zv (fun _ => nilS)) Met.nil MetH.nil MetE.nil sk43da rfl rfl (fix11 ho _) fun g => ⟨rfl, g, rfl⟩
    | false =>
      obtain ⟨rfl, rfl⟩ := hfl rfl
      exact FRwp.pieceN E43d_ok follows 60 1 _ _ _ _ (ofAn_0 true false false false false false .dead [] [] [] [] [] 0 c 0 0 0 0 d own zv zv (fun _ => nilS)) Met.nil MetH.nil MetE.nil sk43da rfl rfl (fix11 rfl _) fun g => ⟨rfl, g, rfl⟩
  rintro st ⟨-, g, rfl⟩
  refine FRwp.seq (Q1 := fun e st => e = .normal ∧ ∃ g, st = stOf 75 g [(0, vS f 0 vs.length c), (2, .int .i64 d), (4, pb 1 0), (7, nilS)] [o, hB own, .dead]) (FRwp.pieceN E43d_ok follows 60 2 _ _ _ _ (ofB_0 f false false false false false o [] [] [] [] [] vs.length c 0 0 0 0 d own zv zv g) Met.nil MetH.nil MetE.nil sk43db rfl rfl (fx2 _) fun g => ⟨rfl, g, rfl⟩) ?_ (fun x st hne hq => absurd hq.1 hne)
  rintro st ⟨-, g, rfl⟩
  let J : List ViewV → Nat → (Nat → Value) → St := fun us i g => stOf 75 g [(0, vS f 0 vs.length c), (2, .int .i64 d), (4, pb 1 0), (7, vS (!us.isEmpty) 2 us.length 22), (8, iN i)] [o, hB own, LtA.ownB us]
  refine FRwp.seq (Q1 := fun e st => e = .normal ∧ ∃ g, st = stOf 75 g [(7, vS (!(vs.filter (pD d own)).isEmpty) 0 (vs.filter (pD d own)).length 22)] [LtA.ownB (vs.filter (pD d own))]) ?_ ?_ (fun x st hne hq => absurd hq.1 hne)
  · refine FRwp.seq (Q1 := fun e st => e = .normal ∧ ∃ g, st = J [] 0 g) (FRwp.pieceN E43d_ok follows 60 3 _ _ _ _ (ofC_0 f false false false false false o [] [] [] [] [] vs.length c 0 0 0 0 d own zv zv g) Met.nil MetH.nil MetE.nil sk43dc rfl rfl (fx3 [] _) fun g => ⟨rfl, g, rfl⟩) ?_ (fun x st hne hq => absurd hq.1 hne)
    rintro st ⟨-, g, rfl⟩
    refine FRwp.mono (fold_loop' (vs := vs) (filS (pD d own)) [] J (fun us st => ∃ g, st = stOf 75 g [(7, vS (!us.isEmpty) 0 us.length 22)] [LtA.ownB us]) (fun us g hf => ?_) (fun i x us g hx hlt hf => ?_) g) fun e st q => by rw [fil_fold] at q; exact q
    · exact FRwp.pieceN E43d_ok follows 60 1 _ _ _ _ (ofLx_0 f (!us.isEmpty) false false false false o us [] [] [] [] vs.length c us.length 0 0 vs.length d own zv zv g) (Met.cons (ltT (a := vs.length) (b := kk f vs.length) (r := false) (by rw [hkk]; simp)) Met.nil) MetH.nil MetE.nil sk43dL rfl rfl (fix11 (LtA.ownB_inert us) _) fun g' => ⟨rfl, g', rfl⟩
    have hft : f = true := by cases f with
      | true => rfl
      | false => rw [(hfl rfl).1] at hlt; simp at hlt
    subst hft
    have hr : ∃ ty ro, o = .cells ty (vrow vs) ro := by
      rcases hrow with h | h
      · rw [h] at hlt; simp at hlt
      · exact h
    have hul : us.length ≤ i := by
      rw [← hf, fil_fold]
      have := List.length_filter_le (pD d own) (vs.take i)
      rw [List.length_take] at this
      simp; omega
    have b0 : RowAt (heapOf [o, hB own, LtA.ownB us, .dead] hp0) 0 vs := rowAt0 hr
    cases hp : pD d own x with
    | false =>
      refine FRwp.pieceN E43d_ok follows 60 3 _ _ _ _ (ofL_1 true (!us.isEmpty) false false false false o us [] [] [] [] vs.length c us.length 0 0 i d own x zv g)
        (Met.cons (wrap_up (by omega)) (Met.cons (bool_ok hp) (Met.cons (hload_ok b0 hx) (Met.cons (vidx_ok hlt) (Met.cons (ltT (decide_eq_true hlt)) Met.nil))))) MetH.nil MetE.nil sk43dL rfl rfl (fx3 us _) fun g' => ⟨rfl, g', ?_⟩
      unfold filS; rw [hp]; rfl
    | true =>
      have happ := app_any (get := (heapOf [o, hB own, LtA.ownB us, .dead, LtA.vB x] hp0).get) (sz := 5) (b := 2) (b2 := 4) (k := us.length) (ws := us) (x := x) rfl (by rw [heapOf0_get]; rfl) (by rw [heapOf0_get]; rfl) rfl (by omega)
      refine FRwp.pieceN E43d_ok follows 60 3 _ _ _ _ (ofL_0 true (!us.isEmpty) false false false false o us [] (us ++ [x]) [] [] vs.length c us.length 0 0 i d own x zv g)
        (Met.cons (wrap_up (by omega)) (Met.cons (vload_ok b0 hx) (Met.cons (vidx_ok hlt) (Met.cons (bool_ok hp) (Met.cons (hload_ok b0 hx) (Met.cons (vidx_ok hlt) (Met.cons (ltT (decide_eq_true hlt)) Met.nil))))))) MetH.nil (MetE.cons happ MetE.nil) sk43dL rfl rfl (by rw [← LtA.ownB_ne (neA us x)]; exact fx3 _ _) fun g' => ⟨rfl, g', ?_⟩
      unfold filS
      dsimp only [J]
      rw [hp, cond_true, isEA, LtA.ownB_ne (neA us x), lenA]; rfl
  rintro st ⟨-, g, rfl⟩
  have hfk : ∀ z ∈ vs.filter (pD d own), Kn z := fun z hz => pD_kn hd (List.mem_filter.1 hz).2
  have hlen : (vs.filter (pD d own)).length < 1000000 := Nat.lt_of_le_of_lt (List.length_filter_le _ _) hn
  unfold idsD
  generalize vs.filter (pD d own) = ss at *
  refine FRwp.seq (Q1 := fun e st => e = .normal ∧ ∃ g, st = stOf 75 g [(7, vS (!ss.isEmpty) 0 ss.length 22), (9, vI false 1 0)] [LtA.ownB ss, ownI []]) (FRwp.pieceN E43d_ok follows 60 1 _ _ _ _ (ofD_0 false (!ss.isEmpty) false false false false o ss [] [] [] [] 0 0 ss.length 0 0 0 d own zv zv g) Met.nil MetH.nil MetE.nil sk43dd rfl rfl (fix11 (LtA.ownB_inert ss) _) fun g => ⟨rfl, g, rfl⟩) ?_ (fun x st hne hq => absurd hq.1 hne)
  rintro st ⟨-, g, rfl⟩
  generalize hT : (ssort ltV ss).map (fun x => x.id) = T
  refine FRwp.seq (Q1 := fun e st => e = .normal ∧ ∃ g, st = stOf 75 g [(9, vI (!T.isEmpty) 0 T.length)] [ownI T]) ?_ ?_ (fun x st hne hq => absurd hq.1 hne)
  rotate_left
  · rintro st ⟨-, g, rfl⟩
    have hz := ofZ_0 false false (!T.isEmpty) false false false o [] [] [] T [] 0 0 0 T.length 0 0 d own zv zv g
    rw [vI_row] at hz
    rw [vI_row]
    exact FRwp.pieceN E43d_ok follows 60 1 _ _ _ _ hz Met.nil MetH.nil MetE.nil sk43dz rfl rfl (fix11 (ownI_inert T) _) fun g => fin_row q43d T g
  refine FRwp.block (FRwp.mono (Q := fun e st => e = .exit 2 ∧ ∃ g, st = stOf 75 g [(9, vI (!T.isEmpty) 0 T.length)] [ownI T]) ?_ fun e st q => by
    obtain ⟨rfl, q⟩ := q
    show (if 2 = 2 then _ else _)
    rw [if_pos rfl]
    exact ⟨rfl, q⟩)
  refine FRwp.loop (fun k st => ∃ (us : List ViewV) (is : List Int) (g : Nat → Value), k = us.length ∧ (∀ z ∈ us, Kn z) ∧ us.length + is.length < 1000000 ∧ is ++ (ssort ltV us).map (fun x => x.id) = T ∧ st = stOf 75 g [(7, vS (!us.isEmpty) 0 us.length 22), (9, vI (!is.isEmpty) 1 is.length)] [LtA.ownB us, ownI is]) ?_ (k := ss.length) ⟨ss, [], g, rfl, hfk, by simpa using hlen, by simpa using hT, rfl⟩
  rintro k st ⟨us, is, g, rfl, hK, hn2, hTT, rfl⟩
  by_cases hne : us = []
  · subst hne
    have hT2 : is = T := by rw [← hTT]; simp [ssort, mrg]
    subst hT2
    refine FRwp.mono (Q := fun e st => e = .exit 2 ∧ ∃ g, st = stOf 75 g [(9, vI (!is.isEmpty) 0 is.length)] [ownI is]) ?_ fun e st q => .inr ⟨by rw [q.1]; simp, q⟩
    exact FRwp.seq (Q1 := fun e st => e = .exit 2 ∧ ∃ g, st = stOf 75 g [(9, vI (!is.isEmpty) 0 is.length)] [ownI is]) (FRwp.pieceN E43d_ok follows 60 1 _ _ _ _ (ofMx_0 false false (!is.isEmpty) false false false o [] [] [] is [] 0 0 0 is.length 0 0 d own zv zv g) (Met.cons (gtT (a := 0) (b := 0) (r := false) rfl) Met.nil) MetH.nil MetE.nil sk43dM rfl rfl (fix11 (ownI_inert is) _) fun g => ⟨rfl, g, rfl⟩) (fun st h => by cases h.1) (fun e st _ h => h)
  obtain ⟨r1, r2, r3⟩ := rest_of hne hK
  have hpos : 0 < us.length := List.length_pos_iff.2 hne
  rw [isE_false hne]
  refine FRwp.mono (Q := fun e st => e = .normal ∧ ∃ g, st = stOf 75 g [(7, vS (!(rest us).isEmpty) 0 (rest us).length 22), (9, vI (!(is ++ [(lowV us).1.id]).isEmpty) 1 (is ++ [(lowV us).1.id]).length)] [LtA.ownB (rest us), ownI (is ++ [(lowV us).1.id])]) ?_ fun e st q => .inl ⟨q.1, (rest us).length, r2, rest us, is ++ [(lowV us).1.id], q.2.choose, rfl, r3, by rw [lenA]; omega, by rw [← hTT, ← r1]; simp, q.2.choose_spec⟩
  have fu2 : ∀ r : List Blk, ∀ i, i < 2 → ∀ o', (LtA.ownB us :: ownI is :: r)[i]? = some o' → Fixed 0 o' := fixOO (LtA.ownB_inert us) (ownI_inert is)
  refine FRwp.seq (Q1 := fun e st => e = .normal ∧ ∃ g, st = stOf 75 g [(7, vS true 0 us.length 22), (9, vI (!is.isEmpty) 1 is.length)] [LtA.ownB us, ownI is]) (FRwp.pieceN E43d_ok follows 60 2 _ _ _ _ (ofM_0 false false (!is.isEmpty) false false false o us [] [] is [] 0 0 us.length is.length 0 0 d own zv zv g) (Met.cons (gtT (decide_eq_true hpos)) Met.nil) MetH.nil MetE.nil sk43dM rfl rfl (fu2 _) fun g => ⟨rfl, g, rfl⟩) ?_ (fun x st hne hq => absurd hq.1 hne)
  rintro st ⟨-, g, rfl⟩
  refine FRwp.block (FRwp.mono (Q := fun e st => e = .normal ∧ ∃ g, st = stOf 75 g [(7, vS (!(rest us).isEmpty) 0 (rest us).length 22), (9, vI (!(is ++ [(lowV us).1.id]).isEmpty) 1 (is ++ [(lowV us).1.id]).length)] [LtA.ownB (rest us), ownI (is ++ [(lowV us).1.id])]) ?_ fun e st q => by obtain ⟨rfl, q⟩ := q; exact ⟨rfl, q⟩)
  have hlow : G35 [vS true 0 us.length 22] (heapOf [LtA.ownB us, ownI is, .dead] hp0) = some (.tuple #[.agg ⟨vc (lowV us).1⟩, .bool (lowV us).2], heapOf [.dead] (heapOf [LtA.ownB us, ownI is, .dead] hp0)) :=
    toldR_none (A := lowR) (vs := us) (rest := []) (.inr ⟨0, 22, LtA.ownB us, rfl, by rw [heapOf0_get]; rfl, LtA.ownB_inert us, .inr ⟨45, false, LtA.ownB_ne hne⟩⟩) (by omega) rfl (by simp [lowA, sh3, sh2, sh1, vc])
  unfold rest
  generalize (lowV us).1 = y at *
  generalize (lowV us).2 = lb at *
  refine FRwp.seq (Q1 := fun e st => e = .normal ∧ ∃ g, st = stOf 75 g [(7, vS true 0 us.length 22), (9, vI (!is.isEmpty) 1 is.length), (10, pb 2 0)] [LtA.ownB us, ownI is, LtA.vB y]) (FRwp.pieceN E43d_ok follows 60 3 _ _ _ _ (ofE_0 false false (!is.isEmpty) false false lb o us [] [] is [] 0 0 us.length is.length 0 0 d own zv y g) Met.nil (MetH.cons hlow MetH.nil) MetE.nil sk43de rfl rfl (fixQ3 (LtA.ownB_inert us) (ownI_inert is) (vB_inert y) _) fun g => ⟨rfl, g, rfl⟩) ?_ (fun x st hne hq => absurd hq.1 hne)
  rintro st ⟨-, g, rfl⟩
  have fu4 : ∀ rs : List ViewV, ∀ r : List Blk, ∀ i, i < 4 → ∀ o', (LtA.ownB us :: ownI is :: LtA.vB y :: LtA.ownB rs :: r)[i]? = some o' → Fixed 0 o' := fun rs => fixQ4 (LtA.ownB_inert us) (ownI_inert is) (vB_inert y) (LtA.ownB_inert rs)
  refine FRwp.seq (Q1 := fun e st => e = .normal ∧ ∃ g, st = stOf 75 g [(7, vS true 0 us.length 22), (9, vI (!is.isEmpty) 1 is.length), (10, pb 2 0), (12, nilS)] [LtA.ownB us, ownI is, LtA.vB y, .dead]) (FRwp.pieceN E43d_ok follows 60 3 _ _ _ _ (ofF_0 false false (!is.isEmpty) false false lb o us [] [] is [] 0 0 us.length is.length 0 0 d own zv y g) Met.nil MetH.nil MetE.nil sk43df rfl rfl (fixQ3 (LtA.ownB_inert us) (ownI_inert is) (vB_inert y) _) fun g => ⟨rfl, g, rfl⟩) ?_ (fun x st hne hq => absurd hq.1 hne)
  rintro st ⟨-, g, rfl⟩
  refine FRwp.seq (Q1 := fun e st => e = .normal ∧ ∃ g, st = stOf 75 g [(7, vS true 0 us.length 22), (9, vI (!is.isEmpty) 1 is.length), (10, pb 2 0), (12, nilS), (13, .bool false)] [LtA.ownB us, ownI is, LtA.vB y, .dead]) (FRwp.pieceN E43d_ok follows 60 4 _ _ _ _ (ofG_0 false false (!is.isEmpty) false false lb o us [] [] is [] 0 0 us.length is.length 0 0 d own zv y g) Met.nil MetH.nil MetE.nil sk43dg rfl rfl (fu4 [] _) fun g => ⟨rfl, g, rfl⟩) ?_ (fun x st hne hq => absurd hq.1 hne)
  rintro st ⟨-, g, rfl⟩
  let JJ : Bool × List ViewV → Nat → (Nat → Value) → St := fun p i g => stOf 75 g [(7, vS true 0 us.length 22), (9, vI (!is.isEmpty) 1 is.length), (10, pb 2 0), (12, vS (!p.2.isEmpty) 3 p.2.length 22), (13, .bool p.1), (14, iN i)] [LtA.ownB us, ownI is, LtA.vB y, LtA.ownB p.2]
  have hrm : ∀ (us : List ViewV) (p : Bool × List ViewV), (us.foldl (rmS y) p).2.length ≤ us.length + p.2.length := by
    intro us
    induction us with
    | nil => intro p; simp
    | cons u us ih =>
      intro p
      rw [List.foldl_cons]
      have := ih (rmS y p u)
      have h2 : (rmS y p u).2.length ≤ p.2.length + 1 := by unfold rmS; cases (!p.1 && sameV u y) <;> simp
      simp only [List.length_cons]; omega
  refine FRwp.seq (Q1 := fun e st => e = .normal ∧ ∃ g, st = stOf 75 g [(7, vS true 0 us.length 22), (9, vI (!is.isEmpty) 1 is.length), (10, pb 2 0), (12, vS (!(us.foldl (rmS y) (false, [])).2.isEmpty) 3 (us.foldl (rmS y) (false, [])).2.length 22)] [LtA.ownB us, ownI is, LtA.vB y, LtA.ownB (us.foldl (rmS y) (false, [])).2]) ?_ ?_ (fun x st hne hq => absurd hq.1 hne)
  · refine FRwp.seq (Q1 := fun e st => e = .normal ∧ ∃ g, st = JJ (false, []) 0 g) (FRwp.pieceN E43d_ok follows 60 4 _ _ _ _ (ofH_0 false false (!is.isEmpty) false false lb o us [] [] is [] 0 0 us.length is.length 0 0 d own zv y g) Met.nil MetH.nil MetE.nil sk43dh rfl rfl (fu4 [] _) fun g => ⟨rfl, g, rfl⟩) ?_ (fun x st hne hq => absurd hq.1 hne)
    rintro st ⟨-, g, rfl⟩
    refine fold_loop' (vs := us) (rmS y) (false, []) JJ (fun p st => ∃ g, st = stOf 75 g [(7, vS true 0 us.length 22), (9, vI (!is.isEmpty) 1 is.length), (10, pb 2 0), (12, vS (!p.2.isEmpty) 3 p.2.length 22)] [LtA.ownB us, ownI is, LtA.vB y, LtA.ownB p.2]) (fun p g hf => ?_) (fun i x p g hx hlt hf => ?_) g
    · exact FRwp.pieceN E43d_ok follows 60 4 _ _ _ _ (ofJx_0 false false (!is.isEmpty) (!p.2.isEmpty) p.1 lb o us p.2 [] is [] 0 0 us.length is.length p.2.length us.length d own zv y g) (Met.cons (ltT (a := us.length) (b := us.length) (r := false) (by simp)) Met.nil) MetH.nil MetE.nil sk43dJ rfl rfl (fu4 _ _) fun g => ⟨rfl, g, rfl⟩
    obtain ⟨b, rs⟩ := p
    have hrs : rs.length ≤ i := by
      have := hrm (us.take i) (false, [])
      rw [hf, List.length_take] at this
      simp at this; omega
    have b0 : ∀ r : List Blk, RowAt (heapOf (LtA.ownB us :: r) hp0) 0 us := fun r => .of (ty := 45) (ro := false) (by rw [heapOf0_get, LtA.ownB_ne hne]; rfl)
    have happ := app_any (get := (heapOf [LtA.ownB us, ownI is, LtA.vB y, LtA.ownB rs, .dead, LtA.vB x] hp0).get) (sz := 6) (b := 3) (b2 := 5) (k := rs.length) (ws := rs) (x := x) rfl (by rw [heapOf0_get]; rfl) (by rw [heapOf0_get]; rfl) rfl (by omega)
    have fapp : ∀ r : List Blk, ∀ i, i < 4 → ∀ o', (LtA.ownB us :: ownI is :: LtA.vB y :: LtA.rowB (rs ++ [x]) :: r)[i]? = some o' → Fixed 0 o' := by rw [← LtA.ownB_ne (neA rs x)]; exact fu4 _
    cases b with
    | true =>
      refine FRwp.pieceN E43d_ok follows 60 4 _ _ _ _ (ofJt_0 false false (!is.isEmpty) (!rs.isEmpty) true lb o us rs (rs ++ [x]) is [] 0 0 us.length is.length rs.length i d own x y g)
        (Met.cons (wrap_up (by omega)) (Met.cons (vload_ok (b0 _) hx) (Met.cons (vidx_ok hlt) (Met.cons (ltT (decide_eq_true hlt)) Met.nil)))) MetH.nil (MetE.cons happ MetE.nil) sk43dJ rfl rfl (fapp _) fun g' => ⟨rfl, g', ?_⟩
      show _ = JJ (true, rs ++ [x]) (i + 1) g'
      dsimp only [JJ]
      rw [isEA, LtA.ownB_ne (neA rs x), lenA]; rfl
    | false =>
      cases hs : sameV x y with
      | true =>
        refine FRwp.pieceN E43d_ok follows 60 4 _ _ _ _ (ofJf_0 false false (!is.isEmpty) (!rs.isEmpty) true lb o us rs [] is [] 0 0 us.length is.length rs.length i d own x y g)
          (Met.cons (wrap_up (by omega)) (Met.cons ((eql34 x y).trans (bool_ok hs)) (Met.cons (vload_ok (b0 _) hx) (Met.cons (vidx_ok hlt) (Met.cons (ltT (decide_eq_true hlt)) Met.nil))))) MetH.nil MetE.nil sk43dJ rfl rfl (fu4 _ _) fun g' => ⟨rfl, g', ?_⟩
        unfold rmS; simp only [hs]; rfl
      | false =>
        refine FRwp.pieceN E43d_ok follows 60 4 _ _ _ _ (ofJf_1 false false (!is.isEmpty) (!rs.isEmpty) true lb o us rs (rs ++ [x]) is [] 0 0 us.length is.length rs.length i d own x y g)
          (Met.cons (wrap_up (by omega)) (Met.cons (vload_ok (b0 _) hx) (Met.cons (vidx_ok hlt) (Met.cons ((eql34 x y).trans (bool_ok hs)) (Met.cons (vload_ok (b0 _) hx) (Met.cons (vidx_ok hlt) (Met.cons (ltT (decide_eq_true hlt)) Met.nil))))))) MetH.nil (MetE.cons happ MetE.nil) sk43dJ rfl rfl (fapp _) fun g' => ⟨rfl, g', ?_⟩
        have e : rmS y (false, rs) x = (false, rs ++ [x]) := by unfold rmS; simp only [hs]; rfl
        rw [e]
        dsimp only [JJ]
        rw [isEA, LtA.ownB_ne (neA rs x), lenA]; rfl
  rintro st ⟨-, g, rfl⟩
  generalize (us.foldl (rmS y) (false, [])).2 = rs at *
  have happ := app_anyI (get := (heapOf [LtA.ownB us, ownI is, LtA.vB y, LtA.ownB rs, .dead, .cells 3 [icell y.id] false] hp0).get) (sz := 6) (b := 1) (b2 := 5) (k := is.length) (ids := is) (x := y.id) rfl (by rw [heapOf0_get]; rfl) (by rw [heapOf0_get]; rfl) rfl (by omega)
  refine FRwp.pieceN E43d_ok follows 60 2 _ _ _ _ (ofK_0 false false (!is.isEmpty) (!rs.isEmpty) true lb o us rs [] is (is ++ [y.id]) 0 0 us.length is.length rs.length 0 d own zv y g) Met.nil MetH.nil (MetE.cons happ MetE.nil) sk43dk rfl rfl (fixOO (LtA.ownB_inert rs) (iB_inert _) _) fun g => ⟨rfl, g, ?_⟩
  rw [isEA, ownI_ne (neA is y.id), lenA]; rfl
noncomputable def G43d : HeapFn := padF (toldR ofR)
theorem hkG43d : CallGoal Try.prog 43 G43d := pad_goal (toldR_goal Try.func43 body43d (by kernel_rfl) ntmps43d fun vs hn => runG vs hn)
theorem G43d_of {vs : List ViewV} {s : Value} {hp : Hp} {d : Int} (own : ViewV) (hd : d = 1 ∨ d = 2) (h : TN vs s hp) (hn : vs.length < 1000000) : G43d [s, hcA own, .int .i64 d] hp = some (rowIv (idsD d own vs) hp.sz, heapOf [ownI (idsD d own vs), .dead] hp) := toldR_ids h hn (by show (if d = 1 ∨ d = 2 then _ else _) = _; rw [if_pos hd]; rfl)
end Go.Proofs.Ytgeoommlmddgpaa.LtA
