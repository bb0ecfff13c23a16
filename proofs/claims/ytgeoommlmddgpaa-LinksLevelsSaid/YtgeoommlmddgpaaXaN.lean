/- LinksLevels, of the given program: for every views the law returns true, and the argument reads as it did. No condition. -/
import Derived.Test.YtgeoommlmddgpaaXaM
import Derived.Test.YtgeoommlmddgpaaXaJ
import Derived.Test.YtgeoommlmddgpaaRows
set_option linter.unusedVariables false
set_option linter.unusedSimpArgs false
set_option maxRecDepth 100000
namespace Go.Proofs.Ytgeoommlmddgpaa.LtL
open Go Go.Proofs Go.Proofs.Ytgeoommlmddgpaa.AI Go.RowKit Go.Proofs.Ytgeoommlmddgpaa.Sort Go.Proofs.Ytgeoommlmddgpaa.LtA

def vD (f : Bool) (b k : Nat) : Value := bif f then .slice (some ⟨b, 0, none⟩) k 11 else nilS
def bB (bs : List Bool) : Blk := .cells 4 (bs.map Value.bool) false
noncomputable def E4 : Ext := extG (extH Try.prog [(19, g16), (26, g31), (25, g30)]) [(21, GLv), (24, G18M)]
theorem E4_ok : ExtOk Try.prog E4 := extG_ok (extH_ok (.cons hk16 (.cons hk31 (.cons hk30 .nil)))) (.cons hkLv (.cons hkG18M .nil))
theorem q4 (v : Value) (O : List Blk) (g : Nat → Value) : retVal Try.prog Try.f4 (stOf 96 g [(2, v)] O) = some v := by kernel_rfl
noncomputable def fb4 : Code := (Try.f4.body).getD .skip
theorem ntmps4 : Try.f4.ntmps = 96 := by kernel_rfl
noncomputable def k4a : Code := sL (fb4)
theorem sk4a : codeSafe Try.prog 96 k4a = true := by kernel_rfl
noncomputable def k4b : Code := sL (sR (fb4))
theorem sk4b : codeSafe Try.prog 96 k4b = true := by kernel_rfl
noncomputable def k4c : Code := sL (sR (sR (fb4)))
theorem sk4c : codeSafe Try.prog 96 k4c = true := by kernel_rfl
noncomputable def k4d : Code := sL (sL (sR (sR (sR (fb4)))))
theorem sk4d : codeSafe Try.prog 96 k4d = true := by kernel_rfl
noncomputable def k4L : Code := unL (unB (sR (sL (sR (sR (sR (fb4)))))))
theorem sk4L : codeSafe Try.prog 96 k4L = true := by kernel_rfl
noncomputable def k4e : Code := sL (sR (sR (sR (sR (fb4)))))
theorem sk4e : codeSafe Try.prog 96 k4e = true := by kernel_rfl
noncomputable def k4f : Code := sL (sL (sR (sR (sR (sR (sR (fb4)))))))
theorem sk4f : codeSafe Try.prog 96 k4f = true := by kernel_rfl
noncomputable def k4O : Code := sL (unL (unB (sR (sL (sR (sR (sR (sR (sR (fb4))))))))))
theorem sk4O : codeSafe Try.prog 96 k4O = true := by kernel_rfl
noncomputable def k4P : Code := sL (unB (sL (sR (unL (unB (sR (sL (sR (sR (sR (sR (sR (fb4)))))))))))))
theorem sk4P : codeSafe Try.prog 96 k4P = true := by kernel_rfl
noncomputable def k4Q : Code := sL (sL (sR (unB (sL (sR (unL (unB (sR (sL (sR (sR (sR (sR (sR (fb4)))))))))))))))
theorem sk4Q : codeSafe Try.prog 96 k4Q = true := by kernel_rfl
noncomputable def k4I : Code := unL (unB (sR (sL (sR (unB (sL (sR (unL (unB (sR (sL (sR (sR (sR (sR (sR (fb4)))))))))))))))))
theorem sk4I : codeSafe Try.prog 96 k4I = true := by kernel_rfl
noncomputable def k4S : Code := sR (sR (unB (sL (sR (unL (unB (sR (sL (sR (sR (sR (sR (sR (fb4))))))))))))))
theorem sk4S : codeSafe Try.prog 96 k4S = true := by kernel_rfl
noncomputable def k4U : Code := sR (sR (unL (unB (sR (sL (sR (sR (sR (sR (sR (fb4)))))))))))
theorem sk4U : codeSafe Try.prog 96 k4U = true := by kernel_rfl
noncomputable def k4g : Code := sL (sL (sR (sR (sR (sR (sR (sR (fb4))))))))
theorem sk4g : codeSafe Try.prog 96 k4g = true := by kernel_rfl
noncomputable def k4T : Code := unL (unB (sR (sL (sR (sR (sR (sR (sR (sR (fb4))))))))))
theorem sk4T : codeSafe Try.prog 96 k4T = true := by kernel_rfl
noncomputable def k4h : Code := sR (sR (sR (sR (sR (sR (sR (fb4)))))))
theorem sk4h : codeSafe Try.prog 96 k4h = true := by kernel_rfl
noncomputable abbrev code4 : Code := .seq k4a (.seq k4b (.seq k4c (.seq (.seq k4d (.block 0 (.loop k4L))) (.seq k4e (.seq (.seq k4f (.block 2 (.loop (.seq k4O (.seq (.block 3 (.seq k4P (.seq (.seq k4Q (.block 4 (.loop k4I))) k4S))) k4U))))) (.seq (.seq k4g (.block 6 (.loop k4T))) k4h))))))
theorem body4 : Try.f4.body = some code4 := by kernel_rfl
theorem llA_0 (f : Bool) (o : Blk) (n c : Nat) : (execN Try.prog (aCall Try.prog E4 60) (callN Try.prog E4 60) 60 k4a ⟨tmsOf [vS f 0 n c] 0 .leaf, heapOf [o, .dead] hp0, []⟩ (acc0 [])).map (fun y => (look2 1 [0] [0] (y.1, y.2.1), y.2.2.q, y.2.2.r, y.2.2.x)) =
    some ((.normal, [o], [(0, vS f 0 n c)], true), [], [], []) := by cases f <;> kernel_rfl
theorem llB_0 (f : Bool) (o : Blk) (n c : Nat) (g : Nat → Value) : (execN Try.prog (aCall Try.prog E4 60) (callN Try.prog E4 60) 60 k4b (stOf 96 g [(0, vS f 0 n c)] [o]) (acc0 [(2, .v (.bool true))])).map (fun y => (look2 1 [] [2] (y.1, y.2.1), y.2.2.q, y.2.2.r, y.2.2.x)) =
    some ((.ret, [], [(2, .bool true)], true), [(some (.bool (decide ((Int.ofNat (kk f n)) > (Int.ofNat 80)))), .bool true)], [], []) := by cases f <;> kernel_rfl
theorem llB_1 (f : Bool) (o : Blk) (n c : Nat) (g : Nat → Value) : (execN Try.prog (aCall Try.prog E4 60) (callN Try.prog E4 60) 60 k4b (stOf 96 g [(0, vS f 0 n c)] [o]) (acc0 [(5, .h (iN 0) [.dead]), (2, .v (.bool false))])).map (fun y => (look2 1 [0] [0] (y.1, y.2.1), y.2.2.q, y.2.2.r, y.2.2.x)) =
    some ((.normal, [o], [(0, vS f 0 n c)], true), [(some (.bool (decide ((Int.ofNat (kk f n)) > (Int.ofNat 80)))), .bool false)], [(G18M [vS f 0 n c] (heapOf [o, .dead] hp0), (iN 0, heapOf [.dead] (heapOf [o, .dead] hp0)))], []) := by cases f <;> kernel_rfl
theorem llBe_0 (f : Bool) (o : Blk) (n c : Nat) (g : Nat → Value) : (execN Try.prog (aCall Try.prog E4 60) (callN Try.prog E4 60) 60 k4b (stOf 96 g [(0, vS f 0 n c)] [o]) (acc0 [(5, .h (iN 1) [.dead]), (2, .v (.bool false))])).map (fun y => (look2 1 [] [2] (y.1, y.2.1), y.2.2.q, y.2.2.r, y.2.2.x)) =
    some ((.ret, [], [(2, .bool true)], true), [(some (.bool (decide ((Int.ofNat (kk f n)) > (Int.ofNat 80)))), .bool false)], [(G18M [vS f 0 n c] (heapOf [o, .dead] hp0), (iN 1, heapOf [.dead] (heapOf [o, .dead] hp0)))], []) := by cases f <;> kernel_rfl
theorem llC_0 (f fl : Bool) (o : Blk) (ls : List Lev) (n c m : Nat) (g : Nat → Value) : (execN Try.prog (aCall Try.prog E4 60) (callN Try.prog E4 60) 60 k4c (stOf 96 g [(0, vS f 0 n c)] [o]) (acc0 [(1, .h (vD fl 2 m) [(ownL ls), .dead])])).map (fun y => (look2 2 [0, 2] [0, 3] (y.1, y.2.1), y.2.2.q, y.2.2.r, y.2.2.x)) =
    some ((.normal, [o, (ownL ls)], [(0, vS f 0 n c), (3, vD fl 1 m)], true), [], [(GLv [vS f 0 n c] (heapOf [o, .dead] hp0), (vD fl 2 m, heapOf [(ownL ls), .dead] (heapOf [o, .dead] hp0)))], []) := by cases f <;> cases fl <;> kernel_rfl
theorem llD_0 (f fl : Bool) (o : Blk) (ls : List Lev) (bs : List Bool) (n c m i k : Nat) (g : Nat → Value) : (execN Try.prog (aCall Try.prog E4 60) (callN Try.prog E4 60) 60 k4d (stOf 96 g [(0, vS f 0 n c), (3, vD fl 1 m)] [o, (ownL ls)]) (acc0 [])).map (fun y => (look2 2 [0, 1] [0, 3, 4] (y.1, y.2.1), y.2.2.q, y.2.2.r, y.2.2.x)) =
    some ((.normal, [o, (ownL ls)], [(0, vS f 0 n c), (3, vD fl 1 m), (4, iN 1)], true), [], [], []) := by cases f <;> cases fl <;> kernel_rfl
theorem llLx_0 (f fl b : Bool) (o : Blk) (ls : List Lev) (bs bz : List Bool) (n c m i k : Nat) (x : ViewV) (y z : Lev) (g : Nat → Value) : (execN Try.prog (aCall Try.prog E4 60) (callN Try.prog E4 60) 60 k4L (stOf 96 g [(0, vS f 0 n c), (3, vD fl 1 m), (4, iN (i + 1))] [o, (ownL ls)]) (acc0 [(3, .v (.bool false))])).map (fun y => (look2 2 [0, 1] [0, 3] (y.1, y.2.1), y.2.2.q, y.2.2.r, y.2.2.x)) =
    some ((.exit 0, [o, (ownL ls)], [(0, vS f 0 n c), (3, vD fl 1 m)], true), [(some (.bool (decide ((Int.ofNat (i + 1)) < (Int.ofNat (kk fl m))))), .bool false)], [], []) := by cases f <;> cases fl <;> kernel_rfl
theorem llL_1 (f fl b : Bool) (o : Blk) (ls : List Lev) (bs bz : List Bool) (n c m i k : Nat) (x : ViewV) (y z : Lev) (g : Nat → Value) : (execN Try.prog (aCall Try.prog E4 60) (callN Try.prog E4 60) 60 k4L (stOf 96 g [(0, vS f 0 n c), (3, vD true 1 m), (4, iN (i + 1))] [o, (ownL ls)]) (acc0 [(16, .v (iN ((i + 1) + 1))), (14, .v (.bool false)), (12, .v (lA z)), (11, .v (pb 1 ((i + 1) * 3))), (8, .v (lA y)), (7, .v (pb 1 (i * 3))), (6, .v (iN i)), (3, .v (.bool true))])).map (fun y => (look2 2 [0, 1] [0, 3, 4] (y.1, y.2.1), y.2.2.q, y.2.2.r, y.2.2.x)) =
    some ((.normal, [o, (ownL ls)], [(0, vS f 0 n c), (3, vD true 1 m), (4, iN ((i + 1) + 1))], true), [(some (.int .i64 (wrapF .i64 (Int.ofNat (i + 1) + Int.ofNat 1))), iN ((i + 1) + 1)), (some (.bool (decide ((ordL y z) ≥ (Int.ofNat 0)))), .bool false), (aLoad Try.prog (heapOf [o, (ownL ls), .dead] hp0).get 42 (pb 1 ((i + 1) * 3)), lA z), (fstV ((aIndexAddr Try.prog 34 (vD true 1 m) (iN (i + 1))).map fun v => (v, none)), pb 1 ((i + 1) * 3)), (aLoad Try.prog (heapOf [o, (ownL ls), .dead] hp0).get 42 (pb 1 (i * 3)), lA y), (fstV ((aIndexAddr Try.prog 34 (vD true 1 m) (iN i)).map fun v => (v, none)), pb 1 (i * 3)), (some (.int .i64 (wrapF .i64 (Int.ofNat (i + 1) - Int.ofNat 1))), iN i), (some (.bool (decide ((Int.ofNat (i + 1)) < (Int.ofNat (kk true m))))), .bool true)], [], []) := by cases f <;> cases fl <;> kernel_rfl
theorem llE_0 (f fl : Bool) (o : Blk) (ls : List Lev) (bs : List Bool) (n c m i k : Nat) (g : Nat → Value) : (execN Try.prog (aCall Try.prog E4 60) (callN Try.prog E4 60) 60 k4e (stOf 96 g [(0, vS f 0 n c), (3, vD fl 1 m)] [o, (ownL ls)]) (acc0 [(2, .h (.slice (some ⟨3, 0, none⟩) m 4) [(bB bs)])])).map (fun y => (look2 3 [0, 1, 3] [0, 3, 5] (y.1, y.2.1), y.2.2.q, y.2.2.r, y.2.2.x)) =
    some ((.normal, [o, (ownL ls), (bB bs)], [(0, vS f 0 n c), (3, vD fl 1 m), (5, .slice (some ⟨2, 0, none⟩) m 4)], true), [], [(((aMakeSlice Try.prog 3 43 (iN (kk fl m)) (iN (kk fl m))).map fun r => (r.1, some r.2)).map (pushV (heapOf [o, (ownL ls), .dead] hp0)), (.slice (some ⟨3, 0, none⟩) m 4, heapOf [(bB bs)] (heapOf [o, (ownL ls), .dead] hp0)))], []) := by cases f <;> cases fl <;> kernel_rfl
theorem llF_0 (f fl : Bool) (o : Blk) (ls : List Lev) (bs : List Bool) (n c m i k : Nat) (g : Nat → Value) : (execN Try.prog (aCall Try.prog E4 60) (callN Try.prog E4 60) 60 k4f (stOf 96 g [(0, vS f 0 n c), (3, vD fl 1 m), (5, .slice (some ⟨2, 0, none⟩) m 4)] [o, (ownL ls), (bB bs)]) (acc0 [])).map (fun y => (look2 3 [0, 1, 2] [0, 3, 5, 6] (y.1, y.2.1), y.2.2.q, y.2.2.r, y.2.2.x)) =
    some ((.normal, [o, (ownL ls), (bB bs)], [(0, vS f 0 n c), (3, vD fl 1 m), (5, .slice (some ⟨2, 0, none⟩) m 4), (6, iN 0)], true), [], [], []) := by cases f <;> cases fl <;> kernel_rfl
theorem llOx_0 (f fl b : Bool) (o : Blk) (ls : List Lev) (bs bz : List Bool) (n c m i k : Nat) (x : ViewV) (y z : Lev) (g : Nat → Value) : (execN Try.prog (aCall Try.prog E4 60) (callN Try.prog E4 60) 60 k4O (stOf 96 g [(0, vS f 0 n c), (3, vD fl 1 m), (5, .slice (some ⟨2, 0, none⟩) m 4), (6, iN i)] [o, (ownL ls), (bB bs)]) (acc0 [(3, .v (.bool false))])).map (fun y => (look2 1 [2] [5] (y.1, y.2.1), y.2.2.q, y.2.2.r, y.2.2.x)) =
    some ((.exit 2, [(bB bs)], [(5, .slice (some ⟨0, 0, none⟩) m 4)], true), [(some (.bool (decide ((Int.ofNat i) < (Int.ofNat (kk f n))))), .bool false)], [], []) := by cases f <;> cases fl <;> kernel_rfl
theorem llO_0 (f fl b : Bool) (o : Blk) (ls : List Lev) (bs bz : List Bool) (n c m i k : Nat) (x : ViewV) (y z : Lev) (g : Nat → Value) : (execN Try.prog (aCall Try.prog E4 60) (callN Try.prog E4 60) 60 k4O (stOf 96 g [(0, vS true 0 n c), (3, vD fl 1 m), (5, .slice (some ⟨2, 0, none⟩) m 4), (6, iN i)] [o, (ownL ls), (bB bs)]) (acc0 [(3, .v (.bool true))])).map (fun y => (look2 3 [0, 1, 2] [0, 3, 5, 6] (y.1, y.2.1), y.2.2.q, y.2.2.r, y.2.2.x)) =
    some ((.normal, [o, (ownL ls), (bB bs)], [(0, vS true 0 n c), (3, vD fl 1 m), (5, .slice (some ⟨2, 0, none⟩) m 4), (6, iN i)], true), [(some (.bool (decide ((Int.ofNat i) < (Int.ofNat (kk true n))))), .bool true)], [], []) := by cases f <;> cases fl <;> kernel_rfl
theorem llP_0 (f fl b : Bool) (o : Blk) (ls : List Lev) (bs bz : List Bool) (n c m i k : Nat) (x : ViewV) (y z : Lev) (g : Nat → Value) : (execN Try.prog (aCall Try.prog E4 60) (callN Try.prog E4 60) 60 k4P (stOf 96 g [(0, vS true 0 n c), (3, vD fl 1 m), (5, .slice (some ⟨2, 0, none⟩) m 4), (6, iN i)] [o, (ownL ls), (bB bs)]) (acc0 [(5, .v (.bool true)), (2, .v (pb 0 (i * 7)))])).map (fun y => (look2 3 [0, 1, 2] [0, 3, 5, 6, 7] (y.1, y.2.1), y.2.2.q, y.2.2.r, y.2.2.x)) =
    some ((.normal, [o, (ownL ls), (bB bs)], [(0, vS true 0 n c), (3, vD fl 1 m), (5, .slice (some ⟨2, 0, none⟩) m 4), (6, iN i), (7, .bool true)], true), [(aLoad Try.prog (heapOf [o, (ownL ls), (bB bs), .dead] hp0).get 4 (pb 0 ((i * 7) + 1)), .bool true), (fstV ((aIndexAddr Try.prog 22 (vS true 0 n c) (iN i)).map fun v => (v, none)), pb 0 (i * 7))], [], []) := by cases fl <;> kernel_rfl
theorem llP_1 (f fl b : Bool) (o : Blk) (ls : List Lev) (bs bz : List Bool) (n c m i k : Nat) (x : ViewV) (y z : Lev) (g : Nat → Value) : (execN Try.prog (aCall Try.prog E4 60) (callN Try.prog E4 60) 60 k4P (stOf 96 g [(0, vS true 0 n c), (3, vD fl 1 m), (5, .slice (some ⟨2, 0, none⟩) m 4), (6, iN i)] [o, (ownL ls), (bB bs)]) (acc0 [(5, .v (.bool false)), (2, .v (pb 0 (i * 7)))])).map (fun y => (look2 3 [0, 1, 2] [0, 3, 5, 6, 7] (y.1, y.2.1), y.2.2.q, y.2.2.r, y.2.2.x)) =
    some ((.normal, [o, (ownL ls), (bB bs)], [(0, vS true 0 n c), (3, vD fl 1 m), (5, .slice (some ⟨2, 0, none⟩) m 4), (6, iN i), (7, .bool false)], true), [(aLoad Try.prog (heapOf [o, (ownL ls), (bB bs), .dead] hp0).get 4 (pb 0 ((i * 7) + 1)), .bool false), (fstV ((aIndexAddr Try.prog 22 (vS true 0 n c) (iN i)).map fun v => (v, none)), pb 0 (i * 7))], [], []) := by cases fl <;> kernel_rfl
theorem llQ_0 (f fl b : Bool) (o : Blk) (ls : List Lev) (bs bz : List Bool) (n c m i k : Nat) (x : ViewV) (y z : Lev) (g : Nat → Value) : (execN Try.prog (aCall Try.prog E4 60) (callN Try.prog E4 60) 60 k4Q (stOf 96 g [(0, vS true 0 n c), (3, vD fl 1 m), (5, .slice (some ⟨2, 0, none⟩) m 4), (6, iN i), (7, .bool b)] [o, (ownL ls), (bB bs)]) (acc0 [])).map (fun y => (look2 3 [0, 1, 2] [0, 3, 5, 6, 7, 8] (y.1, y.2.1), y.2.2.q, y.2.2.r, y.2.2.x)) =
    some ((.normal, [o, (ownL ls), (bB bs)], [(0, vS true 0 n c), (3, vD fl 1 m), (5, .slice (some ⟨2, 0, none⟩) m 4), (6, iN i), (7, .bool b), (8, iN 0)], true), [], [], []) := by cases fl <;> kernel_rfl
theorem llI_0 (f fl b : Bool) (o : Blk) (ls : List Lev) (bs bz : List Bool) (n c m i k : Nat) (x : ViewV) (y z : Lev) (g : Nat → Value) : (execN Try.prog (aCall Try.prog E4 60) (callN Try.prog E4 60) 60 k4I (stOf 96 g [(0, vS true 0 n c), (3, vD fl 1 m), (5, .slice (some ⟨2, 0, none⟩) m 4), (6, iN i), (7, .bool b), (8, iN k)] [o, (ownL ls), (bB bs)]) (acc0 [(10, .v (.bool true)), (7, .v (pb 0 (i * 7))), (3, .v (.bool true))])).map (fun y => (look2 3 [0, 1, 2] [0, 3, 5, 6, 7] (y.1, y.2.1), y.2.2.q, y.2.2.r, y.2.2.x)) =
    some ((.exit 4, [o, (ownL ls), (bB bs)], [(0, vS true 0 n c), (3, vD fl 1 m), (5, .slice (some ⟨2, 0, none⟩) m 4), (6, iN i), (7, .bool b)], true), [(aLoad Try.prog (heapOf [o, (ownL ls), (bB bs), .dead] hp0).get 4 (pb 0 ((i * 7) + 1)), .bool true), (fstV ((aIndexAddr Try.prog 22 (vS true 0 n c) (iN i)).map fun v => (v, none)), pb 0 (i * 7)), (some (.bool (decide ((Int.ofNat k) < (Int.ofNat (kk fl m))))), .bool true)], [], []) := by cases fl <;> kernel_rfl
theorem llI_1 (f fl b : Bool) (o : Blk) (ls : List Lev) (bs bz : List Bool) (n c m i k : Nat) (x : ViewV) (y z : Lev) (g : Nat → Value) : (execN Try.prog (aCall Try.prog E4 60) (callN Try.prog E4 60) 60 k4I (stOf 96 g [(0, vS true 0 n c), (3, vD fl 1 m), (5, .slice (some ⟨2, 0, none⟩) m 4), (6, iN i), (7, .bool b), (8, iN k)] [o, (ownL ls), (bB bs)]) (acc0 [(3, .v (.bool false))])).map (fun y => (look2 3 [0, 1, 2] [0, 3, 5, 6, 7] (y.1, y.2.1), y.2.2.q, y.2.2.r, y.2.2.x)) =
    some ((.exit 4, [o, (ownL ls), (bB bs)], [(0, vS true 0 n c), (3, vD fl 1 m), (5, .slice (some ⟨2, 0, none⟩) m 4), (6, iN i), (7, .bool b)], true), [(some (.bool (decide ((Int.ofNat k) < (Int.ofNat (kk fl m))))), .bool false)], [], []) := by cases fl <;> kernel_rfl
theorem llJ_0 (f fl b : Bool) (o : Blk) (ls : List Lev) (bs bz : List Bool) (n c m i k : Nat) (x : ViewV) (y z : Lev) (g : Nat → Value) : (execN Try.prog (aCall Try.prog E4 60) (callN Try.prog E4 60) 60 k4I (stOf 96 g [(0, vS true 0 n c), (3, vD true 1 m), (5, .slice (some ⟨2, 0, none⟩) m 4), (6, iN i), (7, .bool b), (8, iN k)] [o, (ownL ls), (bB bs)]) (acc0 [(30, .v (iN (k + 1))), (28, .e undef [.put 2 ((bB bz))]), (27, .v (pb 2 k)), (23, .v (.bool true)), (22, .v (lA y)), (21, .v (pb 1 (k * 3))), (17, .v (hcA x)), (15, .v (pb 0 (i * 7))), (10, .v (.bool false)), (7, .v (pb 0 (i * 7))), (3, .v (.bool true))])).map (fun y => (look2 3 [0, 1, 2] [0, 3, 5, 6, 7, 8] (y.1, y.2.1), y.2.2.q, y.2.2.r, y.2.2.x)) =
    some ((.normal, [o, (ownL ls), (bB bz)], [(0, vS true 0 n c), (3, vD true 1 m), (5, .slice (some ⟨2, 0, none⟩) m 4), (6, iN i), (7, .bool true), (8, iN (k + 1))], true), [(some (.int .i64 (wrapF .i64 (Int.ofNat k + Int.ofNat 1))), iN (k + 1)), (fstV ((aIndexAddr Try.prog 43 (.slice (some ⟨2, 0, none⟩) m 4) (iN k)).map fun v => (v, none)), pb 2 k), (aLoad Try.prog (heapOf [o, (ownL ls), (bB bs), .dead] hp0).get 42 (pb 1 (k * 3)), lA y), (fstV ((aBin Try.prog .eql 42 (lA (lvV x)) (lA y)).map fun v => (v, none)), .bool true), (aLoad Try.prog (heapOf [o, (ownL ls), (bB bs), .dead] hp0).get 42 (pb 1 (k * 3)), lA y), (fstV ((aIndexAddr Try.prog 34 (vD true 1 m) (iN k)).map fun v => (v, none)), pb 1 (k * 3)), (aLoad Try.prog (heapOf [o, (ownL ls), (bB bs), .dead] hp0).get 24 (pb 0 ((i * 7) + 1)), hcA x), (fstV ((aIndexAddr Try.prog 22 (vS true 0 n c) (iN i)).map fun v => (v, none)), pb 0 (i * 7)), (aLoad Try.prog (heapOf [o, (ownL ls), (bB bs), .dead] hp0).get 4 (pb 0 ((i * 7) + 1)), .bool false), (fstV ((aIndexAddr Try.prog 22 (vS true 0 n c) (iN i)).map fun v => (v, none)), pb 0 (i * 7)), (some (.bool (decide ((Int.ofNat k) < (Int.ofNat (kk true m))))), .bool true)], [], [((aStore Try.prog (heapOf [o, (ownL ls), (bB bs), .dead] hp0).get 4 (pb 2 k) (.bool true)).map (fun es => (undef, es)), (undef, [.put 2 ((bB bz))]))]) := by kernel_rfl
theorem llJ_1 (f fl b : Bool) (o : Blk) (ls : List Lev) (bs bz : List Bool) (n c m i k : Nat) (x : ViewV) (y z : Lev) (g : Nat → Value) : (execN Try.prog (aCall Try.prog E4 60) (callN Try.prog E4 60) 60 k4I (stOf 96 g [(0, vS true 0 n c), (3, vD true 1 m), (5, .slice (some ⟨2, 0, none⟩) m 4), (6, iN i), (7, .bool b), (8, iN k)] [o, (ownL ls), (bB bs)]) (acc0 [(25, .v (iN (k + 1))), (23, .v (.bool false)), (22, .v (lA y)), (21, .v (pb 1 (k * 3))), (17, .v (hcA x)), (15, .v (pb 0 (i * 7))), (10, .v (.bool false)), (7, .v (pb 0 (i * 7))), (3, .v (.bool true))])).map (fun y => (look2 3 [0, 1, 2] [0, 3, 5, 6, 7, 8] (y.1, y.2.1), y.2.2.q, y.2.2.r, y.2.2.x)) =
    some ((.normal, [o, (ownL ls), (bB bs)], [(0, vS true 0 n c), (3, vD true 1 m), (5, .slice (some ⟨2, 0, none⟩) m 4), (6, iN i), (7, .bool b), (8, iN (k + 1))], true), [(some (.int .i64 (wrapF .i64 (Int.ofNat k + Int.ofNat 1))), iN (k + 1)), (aLoad Try.prog (heapOf [o, (ownL ls), (bB bs), .dead] hp0).get 42 (pb 1 (k * 3)), lA y), (fstV ((aBin Try.prog .eql 42 (lA (lvV x)) (lA y)).map fun v => (v, none)), .bool false), (aLoad Try.prog (heapOf [o, (ownL ls), (bB bs), .dead] hp0).get 42 (pb 1 (k * 3)), lA y), (fstV ((aIndexAddr Try.prog 34 (vD true 1 m) (iN k)).map fun v => (v, none)), pb 1 (k * 3)), (aLoad Try.prog (heapOf [o, (ownL ls), (bB bs), .dead] hp0).get 24 (pb 0 ((i * 7) + 1)), hcA x), (fstV ((aIndexAddr Try.prog 22 (vS true 0 n c) (iN i)).map fun v => (v, none)), pb 0 (i * 7)), (aLoad Try.prog (heapOf [o, (ownL ls), (bB bs), .dead] hp0).get 4 (pb 0 ((i * 7) + 1)), .bool false), (fstV ((aIndexAddr Try.prog 22 (vS true 0 n c) (iN i)).map fun v => (v, none)), pb 0 (i * 7)), (some (.bool (decide ((Int.ofNat k) < (Int.ofNat (kk true m))))), .bool true)], [], []) := by kernel_rfl
theorem llS_0 (f fl b : Bool) (o : Blk) (ls : List Lev) (bs bz : List Bool) (n c m i k : Nat) (x : ViewV) (y z : Lev) (g : Nat → Value) : (execN Try.prog (aCall Try.prog E4 60) (callN Try.prog E4 60) 60 k4S (stOf 96 g [(0, vS true 0 n c), (3, vD fl 1 m), (5, .slice (some ⟨2, 0, none⟩) m 4), (6, iN i), (7, .bool true)] [o, (ownL ls), (bB bs)]) (acc0 [])).map (fun y => (look2 3 [0, 1, 2] [0, 3, 5, 6] (y.1, y.2.1), y.2.2.q, y.2.2.r, y.2.2.x)) =
    some ((.normal, [o, (ownL ls), (bB bs)], [(0, vS true 0 n c), (3, vD fl 1 m), (5, .slice (some ⟨2, 0, none⟩) m 4), (6, iN i)], true), [], [], []) := by cases fl <;> kernel_rfl
theorem llU_0 (f fl b : Bool) (o : Blk) (ls : List Lev) (bs bz : List Bool) (n c m i k : Nat) (x : ViewV) (y z : Lev) (g : Nat → Value) : (execN Try.prog (aCall Try.prog E4 60) (callN Try.prog E4 60) 60 k4U (stOf 96 g [(0, vS true 0 n c), (3, vD fl 1 m), (5, .slice (some ⟨2, 0, none⟩) m 4), (6, iN i)] [o, (ownL ls), (bB bs)]) (acc0 [(1, .v (iN (i + 1)))])).map (fun y => (look2 3 [0, 1, 2] [0, 3, 5, 6] (y.1, y.2.1), y.2.2.q, y.2.2.r, y.2.2.x)) =
    some ((.normal, [o, (ownL ls), (bB bs)], [(0, vS true 0 n c), (3, vD fl 1 m), (5, .slice (some ⟨2, 0, none⟩) m 4), (6, iN (i + 1))], true), [(some (.int .i64 (wrapF .i64 (Int.ofNat i + Int.ofNat 1))), iN (i + 1))], [], []) := by cases fl <;> kernel_rfl
theorem llG_0 (f fl b : Bool) (o : Blk) (ls : List Lev) (bs bz : List Bool) (n c m i k : Nat) (x : ViewV) (y z : Lev) (g : Nat → Value) : (execN Try.prog (aCall Try.prog E4 60) (callN Try.prog E4 60) 60 k4g (stOf 96 g [(5, .slice (some ⟨0, 0, none⟩) m 4)] [(bB bs)]) (acc0 [])).map (fun y => (look2 1 [0] [5, 9] (y.1, y.2.1), y.2.2.q, y.2.2.r, y.2.2.x)) =
    some ((.normal, [(bB bs)], [(5, .slice (some ⟨0, 0, none⟩) m 4), (9, iN 0)], true), [], [], []) := by kernel_rfl
theorem llT_0 (f fl b : Bool) (o : Blk) (ls : List Lev) (bs bz : List Bool) (n c m i k : Nat) (x : ViewV) (y z : Lev) (g : Nat → Value) : (execN Try.prog (aCall Try.prog E4 60) (callN Try.prog E4 60) 60 k4T (stOf 96 g [(5, .slice (some ⟨0, 0, none⟩) m 4), (9, iN k)] [(bB bs)]) (acc0 [(10, .v (iN (k + 1))), (7, .v (.bool true)), (6, .v (pb 0 k)), (3, .v (.bool true))])).map (fun y => (look2 1 [0] [5, 9] (y.1, y.2.1), y.2.2.q, y.2.2.r, y.2.2.x)) =
    some ((.normal, [(bB bs)], [(5, .slice (some ⟨0, 0, none⟩) m 4), (9, iN (k + 1))], true), [(some (.int .i64 (wrapF .i64 (Int.ofNat k + Int.ofNat 1))), iN (k + 1)), (aLoad Try.prog (heapOf [(bB bs), .dead] hp0).get 4 (pb 0 k), .bool true), (fstV ((aIndexAddr Try.prog 43 (.slice (some ⟨0, 0, none⟩) m 4) (iN k)).map fun v => (v, none)), pb 0 k), (some (.bool (decide ((Int.ofNat k) < (Int.ofNat m)))), .bool true)], [], []) := by kernel_rfl
theorem llT_2 (f fl b : Bool) (o : Blk) (ls : List Lev) (bs bz : List Bool) (n c m i k : Nat) (x : ViewV) (y z : Lev) (g : Nat → Value) : (execN Try.prog (aCall Try.prog E4 60) (callN Try.prog E4 60) 60 k4T (stOf 96 g [(5, .slice (some ⟨0, 0, none⟩) m 4), (9, iN k)] [(bB bs)]) (acc0 [(3, .v (.bool false))])).map (fun y => (look2 1 [] [] (y.1, y.2.1), y.2.2.q, y.2.2.r, y.2.2.x)) =
    some ((.exit 6, [], [], true), [(some (.bool (decide ((Int.ofNat k) < (Int.ofNat m)))), .bool false)], [], []) := by kernel_rfl
theorem llH_0 (f fl b : Bool) (o : Blk) (ls : List Lev) (bs bz : List Bool) (n c m i k : Nat) (x : ViewV) (y z : Lev) (g : Nat → Value) : (execN Try.prog (aCall Try.prog E4 60) (callN Try.prog E4 60) 60 k4h (stOf 96 g [] []) (acc0 [])).map (fun y => (look2 0 [] [2] (y.1, y.2.1), y.2.2.q, y.2.2.r, y.2.2.x)) =
    some ((.ret, [], [(2, .bool true)], true), [], [], []) := by kernel_rfl
end Go.Proofs.Ytgeoommlmddgpaa.LtL
namespace Go.Proofs.Ytgeoommlmddgpaa.LtL
open Go Go.Proofs Go.Proofs.Ytgeoommlmddgpaa.AI Go.RowKit Go.Proofs.Ytgeoommlmddgpaa.Sort Go.Proofs.Ytgeoommlmddgpaa.LtA

/-! ### The levels -/
theorem dedS_mem {a : List Lev} {x y : Lev} : x ∈ dedS a y ↔ x ∈ a ∨ x = y := by
  unfold dedS
  split
  · rename_i h
    exact ⟨.inl, fun q => q.elim id fun e => by subst e; exact List.mem_of_getLast? h⟩
  · simp
theorem ded_mem {l : List Lev} {x : Lev} : x ∈ ded l ↔ x ∈ l := by
  have key : ∀ (l a : List Lev), x ∈ l.foldl dedS a ↔ x ∈ a ∨ x ∈ l := by
    intro l
    induction l with
    | nil => intro a; simp
    | cons y l ih => intro a; rw [List.foldl_cons, ih, dedS_mem, List.mem_cons, or_assoc]
  have := key l []
  simpa [ded] using this
theorem sortL_mem {l : List Lev} {x : Lev} : x ∈ sortL l ↔ x ∈ l := (List.mergeSort_perm l _).mem_iff
theorem dlev_mem {l : List Lev} {x : Lev} : x ∈ dlev l ↔ x ∈ l := by
  cases l with
  | nil => exact Iff.rfl
  | cons y l => show x ∈ ded (sortL (y :: l)) ↔ _; rw [ded_mem, sortL_mem]
theorem sortL_sorted (l : List Lev) : (sortL l).Pairwise fun x y => ltL y x = false := by
  have h := List.pairwise_mergeSort (le := fun x y => !Go.Proofs.ltOf ordL y x) (fun a b c h1 h2 => by
      have h1 : ltL b a = false := by unfold ltL; simpa using h1
      have h2 : ltL c b = false := by unfold ltL; simpa using h2
      show (!ltL c a) = true
      rw [ltL_not] at h1 h2
      have : ltL c a = false := ltL_not.2 (by omega)
      rw [this]; rfl) (fun a b => by
      show (!ltL b a || !ltL a b) = true
      cases h1 : ltL b a with
      | false => rfl
      | true =>
        have h1 := ltL_iff.1 h1
        have : ltL a b = false := ltL_not.2 (by omega)
        rw [this]; rfl) l
  exact h.imp fun h => by unfold ltL; simpa using h
theorem ded_rise {l : List Lev} (h : l.Pairwise fun x y => ltL y x = false) : (ded l).Pairwise fun x y => ltL x y = true := by
  have key : ∀ (l a : List Lev), l.Pairwise (fun x y => ltL y x = false) → a.Pairwise (fun x y => ltL x y = true) → (∀ x ∈ a, ∀ y ∈ l, ltL y x = false) → (l.foldl dedS a).Pairwise fun x y => ltL x y = true := by
    intro l
    induction l with
    | nil => intro a _ h _; exact h
    | cons y l ih =>
      intro a hl ha hx
      rw [List.foldl_cons]
      obtain ⟨h1, h2⟩ := List.pairwise_cons.1 hl
      refine ih _ h2 ?_ fun x hxm z hz => ?_
      · unfold dedS
        split
        · exact ha
        · rename_i hne
          refine List.pairwise_append.2 ⟨ha, List.pairwise_singleton _ _, fun x hxa z hz => ?_⟩
          obtain rfl : z = y := by simpa using hz
          cases e : ltL x z with
          | true => rfl
          | false =>
            exfalso
            have ez : x = z := ltL_eq e (hx x hxa z (.head _))
            subst ez
            obtain ⟨b, w, rfl⟩ : ∃ b w, a = b ++ [w] := by
              rcases List.eq_nil_or_concat a with rfl | ⟨b, w, h⟩
              · cases hxa
              · exact ⟨b, w, by rw [h, List.concat_eq_append]⟩
            simp only [List.getLast?_append, List.getLast?_singleton, Option.some_or, Option.some.injEq] at hne
            have hxb : x ∈ b := by
              rcases List.mem_append.1 hxa with h | h
              · exact h
              · exact absurd (by simpa using h : x = w).symm hne
            have h3 := (List.pairwise_append.1 ha).2.2 x hxb w (by simp)
            have h4 := hx w (by simp) x (.head _)
            rw [h3] at h4; cases h4
      · rcases dedS_mem.1 hxm with h | rfl
        · exact hx x h z (.tail _ hz)
        · exact h1 z hz
  exact key l [] h List.Pairwise.nil fun x hx => by cases hx
theorem dlev_rise (l : List Lev) : (dlev l).Pairwise fun x y => ltL x y = true := by
  cases l with
  | nil => exact List.Pairwise.nil
  | cons y l => exact ded_rise (sortL_sorted _)
theorem dlev_next {l : List Lev} {i : Nat} {y z : Lev} (h1 : (dlev l)[i]? = some y) (h2 : (dlev l)[i + 1]? = some z) : decide (ordL y z ≥ Int.ofNat 0) = false := by
  obtain ⟨q1, e1⟩ := List.getElem?_eq_some_iff.1 h1
  obtain ⟨q2, e2⟩ := List.getElem?_eq_some_iff.1 h2
  have := List.pairwise_iff_getElem.1 (dlev_rise l) i (i + 1) q1 q2 (by omega)
  rw [e1, e2] at this
  have h : ordL y z < 0 := of_decide_eq_true this
  exact decide_eq_false (by simp only [Int.ofNat_eq_natCast]; omega)
theorem ded_len2 (l : List Lev) : (dlev l).length ≤ l.length := by
  cases l with
  | nil => exact Nat.le_refl _
  | cons y l => have := ded_len (sortL (y :: l)); rw [sortL_len] at this; exact this
/-! ### Those that were seen -/
def hitB (us : List ViewV) (y : Lev) : Bool := us.any fun x => !x.n && (lvV x == y)
def hits (us : List ViewV) (ls : List Lev) : List Bool := ls.map (hitB us)
theorem hits_nil (ls : List Lev) : hits [] ls = List.replicate ls.length false := by
  unfold hits
  exact List.map_const' ..
theorem hitB_app (us : List ViewV) (x : ViewV) (y : Lev) : hitB (us ++ [x]) y = (hitB us y || (!x.n && (lvV x == y))) := by unfold hitB; simp
theorem hits_null {us : List ViewV} {x : ViewV} (h : x.n = true) (ls : List Lev) : hits (us ++ [x]) ls = hits us ls := by
  unfold hits
  refine List.map_congr_left fun y _ => ?_
  rw [hitB_app, h]; simp
/-- In the midst of a view's levels. -/
def mid (us : List ViewV) (x : ViewV) (ls : List Lev) (k : Nat) : List Bool := (ls.take k).map (hitB (us ++ [x])) ++ (ls.drop k).map (hitB us)
theorem mid_zero (us : List ViewV) (x : ViewV) (ls : List Lev) : mid us x ls 0 = hits us ls := rfl
theorem mid_all (us : List ViewV) (x : ViewV) (ls : List Lev) : mid us x ls ls.length = hits (us ++ [x]) ls := by unfold mid hits; simp
theorem mid_len {us : List ViewV} {x : ViewV} {ls : List Lev} {k : Nat} : (mid us x ls k).length = ls.length := by
  unfold mid
  rw [List.length_append, List.length_map, List.length_map, ← List.length_append, List.take_append_drop]
theorem drop_cons {α : Type} {l : List α} {k : Nat} {y : α} (h : l[k]? = some y) : l.drop k = y :: l.drop (k + 1) := by
  obtain ⟨q, e⟩ := List.getElem?_eq_some_iff.1 h
  rw [← e, List.getElem_cons_drop]
theorem mid_step {us : List ViewV} {x : ViewV} {ls : List Lev} {k : Nat} {y : Lev} (h : ls[k]? = some y) : mid us x ls (k + 1) = (ls.take k).map (hitB (us ++ [x])) ++ (hitB (us ++ [x]) y :: (ls.drop (k + 1)).map (hitB us)) := by
  unfold mid
  rw [take_snoc h]; simp
theorem mid_now {us : List ViewV} {x : ViewV} {ls : List Lev} {k : Nat} {y : Lev} (h : ls[k]? = some y) : mid us x ls k = (ls.take k).map (hitB (us ++ [x])) ++ (hitB us y :: (ls.drop (k + 1)).map (hitB us)) := by
  unfold mid
  rw [drop_cons h]; rfl
theorem mid_set {us : List ViewV} {x : ViewV} {ls : List Lev} {k : Nat} {y : Lev} (h : ls[k]? = some y) (hn : x.n = false) (he : (lvV x == y) = true) : (mid us x ls k).set k true = mid us x ls (k + 1) := by
  have hk : k < ls.length := (List.getElem?_eq_some_iff.1 h).1
  rw [mid_now h, mid_step h, List.set_append_right _ _ (by simp; omega)]
  have e1 : k - ((ls.take k).map (hitB (us ++ [x]))).length = 0 := by simp; omega
  rw [e1, List.set_cons_zero]
  have e2 : hitB (us ++ [x]) y = true := by rw [hitB_app, hn, he]; simp
  rw [e2]
theorem mid_keep {us : List ViewV} {x : ViewV} {ls : List Lev} {k : Nat} {y : Lev} (h : ls[k]? = some y) (he : (lvV x == y) = false) : mid us x ls k = mid us x ls (k + 1) := by
  rw [mid_now h, mid_step h, hitB_app, he]; simp
def inB (x : ViewV) (ls : List Lev) : Bool := ls.any fun y => lvV x == y
theorem inB_step {x : ViewV} {ls : List Lev} {k : Nat} {y : Lev} (h : ls[k]? = some y) : inB x (ls.take (k + 1)) = (inB x (ls.take k) || (lvV x == y)) := by unfold inB; rw [take_snoc h]; simp
/-- A told view's level is there. -/
theorem inB_all {vs : List ViewV} (hr : rightB vs = true) {x : ViewV} (hx : x ∈ vs) (hn : x.n = false) : inB x (dlev (levsV vs)) = true := by
  have hk : toldV x = true := toldV_kn.2 (kn_iff.2 ⟨hn, (right_facts hr hx).2⟩)
  refine List.any_eq_true.2 ⟨lvV x, dlev_mem.2 ?_, by simp⟩
  exact List.mem_map.2 ⟨x, List.mem_filter.2 ⟨hx, hk⟩, rfl⟩
theorem hit_all {vs : List ViewV} {y : Lev} (hy : y ∈ dlev (levsV vs)) : hitB vs y = true := by
  obtain ⟨x, hx, rfl⟩ := List.mem_map.1 (dlev_mem.1 hy)
  obtain ⟨h1, h2⟩ := List.mem_filter.1 hx
  refine List.any_eq_true.2 ⟨x, h1, ?_⟩
  have := (kn_iff.1 (toldV_kn.1 h2)).1
  rw [this]; simp
/-! ### What is owed -/
open Classical in
theorem G18M_of {vs : List ViewV} {s : Value} {hp : Hp} (h : TN vs s hp) (hn : Long vs) : G18M [s] hp = some (errI (rightB vs), heapOf [.dead] hp) := by
  unfold G18M toldQ
  have hx : ∃ vs, TN vs s hp ∧ Long vs := ⟨vs, h, hn⟩
  simp only
  rw [dif_pos hx, hx.choose_spec.1.uniq h]
  show (if TN vs s hp then _ else _) = _
  rw [if_pos h]
  show some (sh3 _ _ (errI (rightB vs)), _) = _
  cases rightB vs <;> rfl
theorem fixO3 {o ob oc : Blk} (ho : inertB o = true) (hob : inertB ob = true) (hoc : inertB oc = true) : ∀ r : List Blk, ∀ i, i < 3 → ∀ o', (o :: ob :: oc :: r)[i]? = some o' → Fixed 0 o' := by
  intro r i hi o' h
  match i, hi with
  | 0, _ => simp at h; subst h; exact inert_fixed ho 0
  | 1, _ => simp at h; subst h; exact inert_fixed hob 0
  | 2, _ => simp at h; subst h; exact inert_fixed hoc 0
theorem bB_inert (bs : List Bool) : inertB (bB bs) = true := by
  show List.all _ inert = true
  rw [List.all_map]
  exact List.all_eq_true.2 fun x _ => rfl
theorem agg4 : tagg Try.prog 4 = some false := by kernel_rfl
theorem size4 : tsize Try.prog 4 = some 1 := by kernel_rfl
theorem underlyingB : Try.prog.underlying 43 = some (.slice 4) := by kernel_rfl
theorem infoB : ∃ i, Try.prog.info? 4 = some i ∧ i.size = 1 ∧ i.bytes = 1 := by
  have h : (Try.prog.info? 4).map (fun i => (i.size, i.bytes)) = some (1, 1) := by kernel_rfl
  obtain ⟨i, h1, h2⟩ := Option.map_eq_some_iff.1 h
  simp only [Prod.mk.injEq] at h2
  exact ⟨i, h1, h2.1, h2.2⟩
theorem zeroB : tzero Try.prog 4 = some [.bool false] := by kernel_rfl
theorem repL_bool (v : Value) : ∀ n, repL [v] n = List.replicate n v
  | 0 => rfl
  | n + 1 => by rw [repL, repL_bool v n]; rfl
theorem mk_bools {m sz : Nat} {hp : Hp} (h : m < 2147483647) : ((aMakeSlice Try.prog sz 43 (iN m) (iN m)).map fun r => (r.1, some r.2)).map (pushV hp) = some (.slice (some ⟨sz, 0, none⟩) m 4, heapOf [bB (List.replicate m false)] hp) := by
  obtain ⟨i, hi, h1, h8⟩ := infoB
  unfold aMakeSlice
  simp only [underlyingB, iN, hi, zeroB, h1, h8]
  rw [if_neg (by simp; omega)]
  simp only [Option.map_some]
  have e : (Int.ofNat m).toNat = m := rfl
  rw [e, repL_bool]
  show some (_, hp.push _) = some (_, hp.push _)
  unfold bB
  rw [List.map_replicate]
theorem bidx {b m k : Nat} (h : k < m) : fstV ((aIndexAddr Try.prog 43 (.slice (some ⟨b, 0, none⟩) m 4) (iN k)).map fun v => (v, none)) = some (pb b k) := by
  have h1 : (0 : Int) ≤ Int.ofNat k ∧ Int.ofNat k < (m : Int) := ⟨Int.natCast_nonneg k, by simpa using h⟩
  simp only [aIndexAddr, iN, underlyingB, size4]
  rw [if_pos h1]
  simp [fstV, pb]
theorem lidxb {b m i : Nat} (h : i < m) : fstV ((aIndexAddr Try.prog 34 (vD true b m) (iN i)).map fun v => (v, none)) = some (pb b (i * 3)) := by
  have h1 : (0 : Int) ≤ Int.ofNat i ∧ Int.ofNat i < (m : Int) := ⟨Int.natCast_nonneg i, by simpa using h⟩
  simp only [aIndexAddr, vD, cond_true, iN, Try.underlying34, sizeL]
  rw [if_pos h1]
  simp [fstV, pb]
theorem lloadb {hp : Hp} {b : Nat} {us : List Lev} {i : Nat} {x : Lev} (hg : hp.get b = some (ownL us)) (h : us[i]? = some x) : aLoad Try.prog hp.get 42 (pb b (i * 3)) = some (lA x) := by
  have hne : us ≠ [] := fun e => by subst e; simp at h
  rw [ownL_ne hne] at hg
  simp only [aLoad, pb, hg, lB, aggL, sizeL]
  have := flat_getR (f := lc) (k := 3) (ps := us) (fun _ _ => rfl) h
  unfold lrow
  rw [this]
  rfl
theorem bload {hp : Hp} {b k : Nat} {bs : List Bool} {v : Bool} (hg : hp.get b = some (bB bs)) (h : bs[k]? = some v) : aLoad Try.prog hp.get 4 (pb b k) = some (.bool v) := by
  simp only [aLoad, pb, hg, bB, agg4, size4]
  rw [List.getElem?_map, h]; rfl
theorem bstore {hp : Hp} {b k : Nat} {bs : List Bool} {v : Bool} (hg : hp.get b = some (bB bs)) (h : k < bs.length) : (aStore Try.prog hp.get 4 (pb b k) (.bool v)).map (fun es => (undef, es)) = some (undef, [.put b (bB (bs.set k v))]) := by
  have e : aStore Try.prog hp.get 4 (pb b k) (.bool v) = some [.put b (.cells 4 (putL (bs.map Value.bool) k [.bool v]) false)] := by
    unfold aStore
    simp only [pb, hg, bB, size4]
    exact if_pos (by show (decide (1 = 1) && true && decide (k + 1 ≤ (bs.map Value.bool).length)) = true; simp; omega)
  rw [e]
  have e2 : putL (bs.map Value.bool) k [.bool v] = (bs.set k v).map Value.bool := by
    apply List.ext_getElem?
    intro j
    rw [putL_get, List.getElem?_map, List.getElem?_map, List.getElem?_set]
    by_cases hj : k = j
    · subst hj
      rw [if_pos ⟨Nat.le_refl _, by simp, by simpa using h⟩, if_pos rfl, if_pos h]; simp
    · rw [if_neg hj, if_neg (by simp; omega)]
  rw [e2]; rfl
theorem vnload {hp : Hp} {b i : Nat} {us : List ViewV} {p : ViewV} (ho : RowAt hp b us) (h : us[i]? = some p) : aLoad Try.prog hp.get 4 (pb b (i * 7 + 1)) = some (.bool p.n) := by
  obtain ⟨ty, ro, rest, hg⟩ := ho
  unfold pb
  simp only [aLoad, hg, agg4, size4]
  have := flat_get vc 7 us (fun _ _ => rfl) i 1 p h (by omega)
  unfold vrow
  rw [get_app this]
theorem rowLv_vD (ls : List Lev) (b : Nat) : rowLv ls b = vD (!ls.isEmpty) b ls.length := by cases ls <;> rfl
theorem kkL (ls : List Lev) : kk (!ls.isEmpty) ls.length = ls.length := by cases ls <;> rfl
end Go.Proofs.Ytgeoommlmddgpaa.LtL
namespace Go.Proofs.Ytgeoommlmddgpaa.LtL
open Go Go.Proofs Go.Proofs.Ytgeoommlmddgpaa.AI Go.RowKit Go.Proofs.Ytgeoommlmddgpaa.Sort Go.Proofs.Ytgeoommlmddgpaa.LtA

def EndsV (e : Exit) (st : St) : Prop := e = .ret ∧ ∃ g, st = stOf 96 g [(2, .bool true)] []
theorem fixN {p : Nat} : ∀ i, i < p → ∀ o, ([] : List Blk)[i]? = some o → Fixed 0 o := fun i _ o h => by simp at h
theorem lawV_fr (f : Bool) (o : Blk) (vs : List ViewV) (c : Nat) (ho : inertB o = true) (hrow : vs = [] ∨ ∃ ty ro, o = .cells ty (vrow vs) ro) (hfl : f = false → vs = [] ∧ o = .dead) (W : Base) :
    FRwp Try.prog 96 W code4 ⟨tmsOf [vS f 0 vs.length c] 0 .leaf, heapOf [o, .dead] hp0, []⟩ EndsV := by
  have hkk := kk_len hfl
  refine FRwp.seq (Q1 := fun e st => e = .normal ∧ ∃ g, st = stOf 96 g [(0, vS f 0 vs.length c)] [o]) (FRwp.pieceN E4_ok follows 60 1 _ _ _ _ (llA_0 f o vs.length c) Met.nil MetH.nil MetE.nil sk4a rfl rfl (fix11 ho _) fun g => ⟨rfl, g, rfl⟩) ?_ (fun x st hne hq => absurd hq.1 hne)
  rintro st ⟨-, g, rfl⟩
  have T0 : TN vs (vS f 0 vs.length c) (heapOf [o, .dead] hp0) := tn_vS ho hrow hfl (by rw [heapOf0_get]; rfl)
  have hub : ∀ {r : Bool}, decide (80 < vs.length) = r → (some (Value.bool (decide (Int.ofNat (kk f vs.length) > Int.ofNat 80)))) = some (.bool r) := fun {r} h => by
    rw [hkk, ← h, show decide (Int.ofNat vs.length > Int.ofNat 80) = decide (80 < vs.length) from decide_eq_decide.2 (by simp only [Int.ofNat_eq_natCast]; omega)]
  let Q3 : Exit → St → Prop := fun e st => (e = .normal ∧ vs.length ≤ 80 ∧ rightB vs = true ∧ ∃ g, st = stOf 96 g [(0, vS f 0 vs.length c)] [o]) ∨ EndsV e st
  refine FRwp.seq (Q1 := Q3) ?_ ?_ ?_
  · cases h15 : decide (80 < vs.length) with
    | true => exact FRwp.pieceN E4_ok follows 60 1 _ _ _ _ (llB_0 f o vs.length c g) (Met.cons (hub h15) Met.nil) MetH.nil MetE.nil sk4b rfl rfl fixN fun g => .inr ⟨rfl, g, rfl⟩
    | false =>
      have hle : vs.length ≤ 80 := by simpa using h15
      have hck := G18M_of T0 (by unfold Long; omega)
      cases hr : rightB vs with
      | true => rw [hr] at hck; exact FRwp.pieceN E4_ok follows 60 1 _ _ _ _ (llB_1 f o vs.length c g) (Met.cons (hub h15) Met.nil) (MetH.cons hck MetH.nil) MetE.nil sk4b rfl rfl (fix11 ho _) fun g => .inl ⟨rfl, hle, hr, g, rfl⟩
      | false => rw [hr] at hck; exact FRwp.pieceN E4_ok follows 60 1 _ _ _ _ (llBe_0 f o vs.length c g) (Met.cons (hub h15) Met.nil) (MetH.cons hck MetH.nil) MetE.nil sk4b rfl rfl fixN fun g => .inr ⟨rfl, g, rfl⟩
  rotate_left
  · rintro e st hne (⟨h, -⟩ | h)
    · exact absurd h hne
    · exact h
  rintro st (⟨-, hle, hr, g, rfl⟩ | ⟨h, -⟩)
  rotate_left
  · cases h
  have hlv := GLv_of T0 (by omega)
  have hm : (dlev (levsV vs)).length ≤ vs.length := Nat.le_trans (ded_len2 _) (levsV_len _)
  have hin := fun x hx hn => inB_all hr (x := x) hx hn
  have hall := fun y hy => hit_all (vs := vs) (y := y) hy
  have hnx := fun i y z h1 h2 => dlev_next (l := levsV vs) (i := i) (y := y) (z := z) h1 h2
  rw [rowLv_vD] at hlv
  generalize dlev (levsV vs) = ls at *
  have hkl := kkL ls
  have fx2 : ∀ r : List Blk, ∀ i, i < 2 → ∀ o', (o :: ownL ls :: r)[i]? = some o' → Fixed 0 o' := fixOO ho (ownL_inert ls)
  have fx3 : ∀ bs : List Bool, ∀ r : List Blk, ∀ i, i < 3 → ∀ o', (o :: ownL ls :: bB bs :: r)[i]? = some o' → Fixed 0 o' := fun bs => fixO3 ho (ownL_inert ls) (bB_inert bs)
  refine FRwp.seq (Q1 := fun e st => e = .normal ∧ ∃ g, st = stOf 96 g [(0, vS f 0 vs.length c), (3, vD (!ls.isEmpty) 1 ls.length)] [o, ownL ls]) (FRwp.pieceN E4_ok follows 60 2 _ _ _ _ (llC_0 f (!ls.isEmpty) o ls vs.length c ls.length g) Met.nil (MetH.cons hlv MetH.nil) MetE.nil sk4c rfl rfl (fx2 _) fun g => ⟨rfl, g, rfl⟩) ?_ (fun x st hne hq => absurd hq.1 hne)
  rintro st ⟨-, g, rfl⟩
  have hlt1 : ∀ {a b : Nat} {r : Bool}, decide (a < b) = r → (some (Value.bool (decide (Int.ofNat a < Int.ofNat b)))) = some (.bool r) := fun {a b r} h => bool_ok (by rw [← h]; exact decide_eq_decide.2 (by simp only [Int.ofNat_eq_natCast]; omega))
  -- they rise
  refine FRwp.seq (Q1 := fun e st => e = .normal ∧ ∃ g, st = stOf 96 g [(0, vS f 0 vs.length c), (3, vD (!ls.isEmpty) 1 ls.length)] [o, ownL ls]) ?_ ?_ (fun x st hne hq => absurd hq.1 hne)
  · refine FRwp.seq (Q1 := fun e st => e = .normal ∧ ∃ g, st = stOf 96 g [(0, vS f 0 vs.length c), (3, vD (!ls.isEmpty) 1 ls.length), (4, iN (0 + 1))] [o, ownL ls]) (FRwp.pieceN E4_ok follows 60 2 _ _ _ _ (llD_0 f (!ls.isEmpty) o ls [] vs.length c ls.length 0 0 g) Met.nil MetH.nil MetE.nil sk4d rfl rfl (fx2 _) fun g => ⟨rfl, g, rfl⟩) ?_ (fun x st hne hq => absurd hq.1 hne)
    rintro st ⟨-, g, rfl⟩
    refine fold_loop' (vs := ls.tail) (fun _ _ => ()) () (fun _ i g => stOf 96 g [(0, vS f 0 vs.length c), (3, vD (!ls.isEmpty) 1 ls.length), (4, iN (i + 1))] [o, ownL ls]) (fun _ st => ∃ g, st = stOf 96 g [(0, vS f 0 vs.length c), (3, vD (!ls.isEmpty) 1 ls.length)] [o, ownL ls]) (fun _ g _ => ?_) (fun i z _ g hz hlt _ => ?_) g
    · exact FRwp.pieceN E4_ok follows 60 2 _ _ _ _ (llLx_0 f (!ls.isEmpty) false o ls [] [] vs.length c ls.length ls.tail.length 0 ⟨0, false, 0, 0, 0, 0, 0⟩ (0, 0, 0) (0, 0, 0) g) (Met.cons (hlt1 (by rw [hkl]; simp; omega)) Met.nil) MetH.nil MetE.nil sk4L rfl rfl (fx2 _) fun g' => ⟨rfl, g', rfl⟩
    · have hz' : ls[i + 1]? = some z := by rw [← hz, List.getElem?_tail]
      have hi1 : i + 1 < ls.length := (List.getElem?_eq_some_iff.1 hz').1
      have hy' : ls[i]? = some ls[i] := List.getElem?_eq_getElem (by omega)
      have hne : ls ≠ [] := fun e => by rw [e] at hz'; cases hz'
      rw [isE_false hne]
      exact FRwp.pieceN E4_ok follows 60 2 _ _ _ _ (llL_1 f true false o ls [] [] vs.length c ls.length i 0 ⟨0, false, 0, 0, 0, 0, 0⟩ ls[i] z g)
        (Met.cons (wrap_up (by omega)) (Met.cons (bool_ok (hnx i _ _ hy' hz')) (Met.cons (lloadb (by rw [heapOf0_get]; rfl) hz') (Met.cons (lidxb (by omega)) (Met.cons (lloadb (by rw [heapOf0_get]; rfl) hy') (Met.cons (lidxb (by omega)) (Met.cons (wrap_down (by omega)) (Met.cons (hlt1 (decide_eq_true (by show i + 1 < ls.length; omega))) Met.nil)))))))) MetH.nil MetE.nil sk4L rfl rfl (fx2 _) fun g' => ⟨rfl, g', rfl⟩
  rintro st ⟨-, g, rfl⟩
  -- those that are seen
  refine FRwp.seq (Q1 := fun e st => e = .normal ∧ ∃ g, st = stOf 96 g [(0, vS f 0 vs.length c), (3, vD (!ls.isEmpty) 1 ls.length), (5, .slice (some ⟨2, 0, none⟩) ls.length 4)] [o, ownL ls, bB (hits [] ls)])
    (FRwp.pieceN E4_ok follows 60 3 _ _ _ _ (llE_0 f (!ls.isEmpty) o ls (hits [] ls) vs.length c ls.length 0 0 g) Met.nil (MetH.cons (by rw [hkl, hits_nil]; exact mk_bools (by omega)) MetH.nil) MetE.nil sk4e rfl rfl (fx3 _ _) fun g => ⟨rfl, g, rfl⟩) ?_ (fun x st hne hq => absurd hq.1 hne)
  rintro st ⟨-, g, rfl⟩
  let J : List ViewV → Nat → (Nat → Value) → St := fun us i g => stOf 96 g [(0, vS f 0 vs.length c), (3, vD (!ls.isEmpty) 1 ls.length), (5, .slice (some ⟨2, 0, none⟩) ls.length 4), (6, iN i)] [o, ownL ls, bB (hits us ls)]
  refine FRwp.seq (Q1 := fun e st => e = .normal ∧ ∃ g, st = stOf 96 g [(5, .slice (some ⟨0, 0, none⟩) ls.length 4)] [bB (hits vs ls)]) ?_ ?_ (fun x st hne hq => absurd hq.1 hne)
  · refine FRwp.seq (Q1 := fun e st => e = .normal ∧ ∃ g, st = J [] 0 g) (FRwp.pieceN E4_ok follows 60 3 _ _ _ _ (llF_0 f (!ls.isEmpty) o ls (hits [] ls) vs.length c ls.length 0 0 g) Met.nil MetH.nil MetE.nil sk4f rfl rfl (fx3 _ _) fun g => ⟨rfl, g, rfl⟩) ?_ (fun x st hne hq => absurd hq.1 hne)
    rintro st ⟨-, g, rfl⟩
    refine FRwp.mono (fold_loop' (vs := vs) (fun us x => us ++ [x]) [] J (fun us st => ∃ g, st = stOf 96 g [(5, .slice (some ⟨0, 0, none⟩) ls.length 4)] [bB (hits us ls)]) (fun us g hf => ?_) (fun i x us g hx hlt hf => ?_) g) fun e st q => by rw [show vs.foldl (fun us x => us ++ [x]) [] = vs from (map_fold (m := id) (vs := vs) (us := [])).trans (by simp)] at q; exact q
    · exact FRwp.seq (Q1 := fun e st => e = .exit 2 ∧ ∃ g, st = stOf 96 g [(5, .slice (some ⟨0, 0, none⟩) ls.length 4)] [bB (hits us ls)]) (FRwp.pieceN E4_ok follows 60 1 _ _ _ _ (llOx_0 f (!ls.isEmpty) false o ls (hits us ls) [] vs.length c ls.length vs.length 0 ⟨0, false, 0, 0, 0, 0, 0⟩ (0, 0, 0) (0, 0, 0) g) (Met.cons (hlt1 (a := vs.length) (b := kk f vs.length) (r := false) (by rw [hkk]; simp)) Met.nil) MetH.nil MetE.nil sk4O rfl rfl (fix11 (bB_inert _) _) fun g' => ⟨rfl, g', rfl⟩) (fun st h => by cases h.1) (fun e st _ h => h)
    have hft : f = true := by cases f with
      | true => rfl
      | false => rw [(hfl rfl).1] at hlt; simp at hlt
    subst hft
    have hro : ∃ ty ro, o = .cells ty (vrow vs) ro := by
      rcases hrow with h | h
      · rw [h] at hlt; simp at hlt
      · exact h
    have b0 : ∀ r : List Blk, RowAt (heapOf (o :: r) hp0) 0 vs := fun r => rowAt0 hro
    have hxm : x ∈ vs := List.mem_of_getElem? hx
    refine FRwp.seq (Q1 := fun e st => e = .normal ∧ ∃ g, st = J us i g) (FRwp.pieceN E4_ok follows 60 3 _ _ _ _ (llO_0 true (!ls.isEmpty) false o ls (hits us ls) [] vs.length c ls.length i 0 x (0, 0, 0) (0, 0, 0) g) (Met.cons (hlt1 (decide_eq_true hlt)) Met.nil) MetH.nil MetE.nil sk4O rfl rfl (fx3 _ _) fun g => ⟨rfl, g, rfl⟩) ?_ (fun x st hne hq => absurd hq.1 hne)
    rintro st ⟨-, g, rfl⟩
    refine FRwp.seq (Q1 := fun e st => e = .normal ∧ ∃ g, st = J (us ++ [x]) i g) ?_ ?_ (fun x st hne hq => absurd hq.1 hne)
    rotate_left
    · rintro st ⟨-, g, rfl⟩
      exact FRwp.pieceN E4_ok follows 60 3 _ _ _ _ (llU_0 true (!ls.isEmpty) false o ls (hits (us ++ [x]) ls) [] vs.length c ls.length i 0 x (0, 0, 0) (0, 0, 0) g) (Met.cons (wrap_up (by omega)) Met.nil) MetH.nil MetE.nil sk4U rfl rfl (fx3 _ _) fun g => ⟨rfl, g, rfl⟩
    refine FRwp.block (FRwp.mono (Q := fun e st => e = .normal ∧ ∃ g, st = J (us ++ [x]) i g) ?_ fun e st q => by obtain ⟨rfl, q⟩ := q; exact ⟨rfl, q⟩)
    refine FRwp.seq (Q1 := fun e st => e = .normal ∧ ∃ g, st = stOf 96 g [(0, vS true 0 vs.length c), (3, vD (!ls.isEmpty) 1 ls.length), (5, .slice (some ⟨2, 0, none⟩) ls.length 4), (6, iN i), (7, .bool x.n)] [o, ownL ls, bB (hits us ls)]) ?_ ?_ (fun x st hne hq => absurd hq.1 hne)
    · have hb := vnload (b0 [ownL ls, bB (hits us ls), .dead]) hx
      cases hn : x.n with
      | true => rw [hn] at hb; exact FRwp.pieceN E4_ok follows 60 3 _ _ _ _ (llP_0 true (!ls.isEmpty) false o ls (hits us ls) [] vs.length c ls.length i 0 x (0, 0, 0) (0, 0, 0) g) (Met.cons hb (Met.cons (LtA.vidx_ok hlt) Met.nil)) MetH.nil MetE.nil sk4P rfl rfl (fx3 _ _) fun g => ⟨rfl, g, rfl⟩
      | false => rw [hn] at hb; exact FRwp.pieceN E4_ok follows 60 3 _ _ _ _ (llP_1 true (!ls.isEmpty) false o ls (hits us ls) [] vs.length c ls.length i 0 x (0, 0, 0) (0, 0, 0) g) (Met.cons hb (Met.cons (LtA.vidx_ok hlt) Met.nil)) MetH.nil MetE.nil sk4P rfl rfl (fx3 _ _) fun g => ⟨rfl, g, rfl⟩
    rintro st ⟨-, g, rfl⟩
    let I : Bool → List Bool → Nat → (Nat → Value) → St := fun b bs k g => stOf 96 g [(0, vS true 0 vs.length c), (3, vD (!ls.isEmpty) 1 ls.length), (5, .slice (some ⟨2, 0, none⟩) ls.length 4), (6, iN i), (7, .bool b), (8, iN k)] [o, ownL ls, bB bs]
    refine FRwp.seq (Q1 := fun e st => e = .normal ∧ ∃ g, st = stOf 96 g [(0, vS true 0 vs.length c), (3, vD (!ls.isEmpty) 1 ls.length), (5, .slice (some ⟨2, 0, none⟩) ls.length 4), (6, iN i), (7, .bool true)] [o, ownL ls, bB (hits (us ++ [x]) ls)]) ?_ ?_ (fun x st hne hq => absurd hq.1 hne)
    rotate_left
    · rintro st ⟨-, g, rfl⟩
      exact FRwp.pieceN E4_ok follows 60 3 _ _ _ _ (llS_0 true (!ls.isEmpty) false o ls (hits (us ++ [x]) ls) [] vs.length c ls.length i 0 x (0, 0, 0) (0, 0, 0) g) Met.nil MetH.nil MetE.nil sk4S rfl rfl (fx3 _ _) fun g => ⟨rfl, g, rfl⟩
    refine FRwp.seq (Q1 := fun e st => e = .normal ∧ ∃ g, st = I x.n (hits us ls) 0 g) (FRwp.pieceN E4_ok follows 60 3 _ _ _ _ (llQ_0 true (!ls.isEmpty) x.n o ls (hits us ls) [] vs.length c ls.length i 0 x (0, 0, 0) (0, 0, 0) g) Met.nil MetH.nil MetE.nil sk4Q rfl rfl (fx3 _ _) fun g => ⟨rfl, g, rfl⟩) ?_ (fun x st hne hq => absurd hq.1 hne)
    rintro st ⟨-, g, rfl⟩
    have fin : ∀ b bs k g, (ls.length ≤ k ∨ x.n = true) → FRwp Try.prog 96 W k4I (I b bs k g) (fun e st => e = .exit 4 ∧ ∃ g, st = stOf 96 g [(0, vS true 0 vs.length c), (3, vD (!ls.isEmpty) 1 ls.length), (5, .slice (some ⟨2, 0, none⟩) ls.length 4), (6, iN i), (7, .bool b)] [o, ownL ls, bB bs]) := fun b bs k g hk => by
      by_cases hkl2 : k < ls.length
      · have hn : x.n = true := hk.resolve_left (by omega)
        have hb := vnload (b0 [ownL ls, bB bs, .dead]) hx
        rw [hn] at hb
        exact FRwp.pieceN E4_ok follows 60 3 _ _ _ _ (llI_0 true (!ls.isEmpty) b o ls bs [] vs.length c ls.length i k x (0, 0, 0) (0, 0, 0) g) (Met.cons hb (Met.cons (LtA.vidx_ok hlt) (Met.cons (hlt1 (by rw [hkl]; exact decide_eq_true hkl2)) Met.nil))) MetH.nil MetE.nil sk4I rfl rfl (fx3 _ _) fun g => ⟨rfl, g, rfl⟩
      · exact FRwp.pieceN E4_ok follows 60 3 _ _ _ _ (llI_1 true (!ls.isEmpty) b o ls bs [] vs.length c ls.length i k x (0, 0, 0) (0, 0, 0) g) (Met.cons (hlt1 (by rw [hkl]; exact decide_eq_false hkl2)) Met.nil) MetH.nil MetE.nil sk4I rfl rfl (fx3 _ _) fun g => ⟨rfl, g, rfl⟩
    cases hn : x.n with
    | true =>
      rw [hits_null hn]
      rw [hn] at fin
      exact fold_loop' (vs := ([] : List Lev)) (fun _ _ => ()) () (fun _ k g => I true (hits us ls) k g) (fun _ st => ∃ g, st = stOf 96 g [(0, vS true 0 vs.length c), (3, vD (!ls.isEmpty) 1 ls.length), (5, .slice (some ⟨2, 0, none⟩) ls.length 4), (6, iN i), (7, .bool true)] [o, ownL ls, bB (hits us ls)]) (fun _ g _ => fin true (hits us ls) _ g (.inr rfl)) (fun k y _ g hy => by cases hy) g
    | false =>
      have hI := hin x hxm hn
      rw [show (true : Bool) = inB x ls from hI.symm, ← mid_all us x ls, ← mid_zero us x ls]
      refine fold_loop' (vs := ls) (fun _ _ => ()) () (fun _ k g => I (inB x (ls.take k)) (mid us x ls k) k g) (fun _ st => ∃ g, st = stOf 96 g [(0, vS (inB x ls) 0 vs.length c), (3, vD (!ls.isEmpty) 1 ls.length), (5, .slice (some ⟨2, 0, none⟩) ls.length 4), (6, iN i), (7, .bool (inB x ls))] [o, ownL ls, bB (mid us x ls ls.length)]) (fun _ g _ => ?_) (fun k y _ g hy hk _ => ?_) g
      · have := fin (inB x (ls.take ls.length)) (mid us x ls ls.length) ls.length g (.inl (Nat.le_refl _))
        rw [List.take_length] at this
        rw [List.take_length, hI] at *
        exact this
      · have hne : ls ≠ [] := fun e => by rw [e] at hy; cases hy
        have hb := vnload (b0 [ownL ls, bB (mid us x ls k), .dead]) hx
        rw [hn] at hb
        have hl : ∀ bs : List Bool, aLoad Try.prog (heapOf [o, ownL ls, bB bs, .dead] hp0).get 42 (pb 1 (k * 3)) = some (lA y) := fun bs => lloadb (by rw [heapOf0_get]; rfl) hy
        have met : ∀ {l : List Obl}, AI.Met l → AI.Met ((aLoad Try.prog (heapOf [o, ownL ls, bB (mid us x ls k), .dead] hp0).get 42 (pb 1 (k * 3)), lA y) :: (fstV ((aIndexAddr Try.prog 34 (vD true 1 ls.length) (iN k)).map fun v => (v, none)), pb 1 (k * 3)) :: (aLoad Try.prog (heapOf [o, ownL ls, bB (mid us x ls k), .dead] hp0).get 24 (pb 0 ((i * 7) + 1)), hcA x) :: (fstV ((aIndexAddr Try.prog 22 (vS true 0 vs.length c) (iN i)).map fun v => (v, none)), pb 0 (i * 7)) :: (aLoad Try.prog (heapOf [o, ownL ls, bB (mid us x ls k), .dead] hp0).get 4 (pb 0 ((i * 7) + 1)), .bool false) :: (fstV ((aIndexAddr Try.prog 22 (vS true 0 vs.length c) (iN i)).map fun v => (v, none)), pb 0 (i * 7)) :: (some (.bool (decide ((Int.ofNat k) < (Int.ofNat (kk true ls.length))))), .bool true) :: l) := fun hl2 =>
          Met.cons (hl _) (Met.cons (lidxb hk) (Met.cons (hload_ok (b0 _) hx) (Met.cons (LtA.vidx_ok hlt) (Met.cons hb (Met.cons (LtA.vidx_ok hlt) (Met.cons (hlt1 (decide_eq_true hk)) hl2))))))
        rw [inB_step hy]
        cases he : (lvV x == y) with
        | true =>
          have hst := bstore (hp := heapOf [o, ownL ls, bB (mid us x ls k), .dead] hp0) (b := 2) (k := k) (v := true) (by rw [heapOf0_get]; rfl) (by rw [mid_len]; exact hk)
          rw [mid_set hy hn he] at hst
          dsimp only [I]
          rw [isE_false hne, Bool.or_true]
          exact FRwp.pieceN E4_ok follows 60 3 _ _ _ _ (llJ_0 true true (inB x (ls.take k)) o ls (mid us x ls k) (mid us x ls (k + 1)) vs.length c ls.length i k x y (0, 0, 0) g)
            (Met.cons (wrap_up (by omega)) (Met.cons (bidx hk) (Met.cons (hl _) (Met.cons ((eqLev (lvV x) y).trans (bool_ok he)) (met Met.nil))))) MetH.nil (MetE.cons hst MetE.nil) sk4I rfl rfl (fx3 _ _) fun g => ⟨rfl, g, rfl⟩
        | false =>
          dsimp only [I]
          rw [isE_false hne, Bool.or_false, ← mid_keep hy he]
          exact FRwp.pieceN E4_ok follows 60 3 _ _ _ _ (llJ_1 true true (inB x (ls.take k)) o ls (mid us x ls k) [] vs.length c ls.length i k x y (0, 0, 0) g)
            (Met.cons (wrap_up (by omega)) (Met.cons (hl _) (Met.cons ((eqLev (lvV x) y).trans (bool_ok he)) (met Met.nil)))) MetH.nil MetE.nil sk4I rfl rfl (fx3 _ _) fun g => ⟨rfl, g, rfl⟩
  rintro st ⟨-, g, rfl⟩
  -- each is seen
  have fb : ∀ r : List Blk, ∀ i, i < 1 → ∀ o', (bB (hits vs ls) :: r)[i]? = some o' → Fixed 0 o' := fix11 (bB_inert _)
  refine FRwp.seq (Q1 := fun e st => e = .normal ∧ ∃ g, st = stOf 96 g [] []) ?_ ?_ (fun x st hne hq => absurd hq.1 hne)
  · refine FRwp.seq (Q1 := fun e st => e = .normal ∧ ∃ g, st = stOf 96 g [(5, .slice (some ⟨0, 0, none⟩) ls.length 4), (9, iN 0)] [bB (hits vs ls)]) (FRwp.pieceN E4_ok follows 60 1 _ _ _ _ (llG_0 false false false o ls (hits vs ls) [] 0 0 ls.length 0 0 ⟨0, false, 0, 0, 0, 0, 0⟩ (0, 0, 0) (0, 0, 0) g) Met.nil MetH.nil MetE.nil sk4g rfl rfl (fb _) fun g => ⟨rfl, g, rfl⟩) ?_ (fun x st hne hq => absurd hq.1 hne)
    rintro st ⟨-, g, rfl⟩
    refine fold_loop' (vs := ls) (fun _ _ => ()) () (fun _ k g => stOf 96 g [(5, .slice (some ⟨0, 0, none⟩) ls.length 4), (9, iN k)] [bB (hits vs ls)]) (fun _ st => ∃ g, st = stOf 96 g [] []) (fun _ g _ => ?_) (fun k y _ g hy hk _ => ?_) g
    · exact FRwp.pieceN E4_ok follows 60 1 _ _ _ _ (llT_2 false false false o ls (hits vs ls) [] 0 0 ls.length 0 ls.length ⟨0, false, 0, 0, 0, 0, 0⟩ (0, 0, 0) (0, 0, 0) g) (Met.cons (hlt1 (a := ls.length) (b := ls.length) (r := false) (by simp)) Met.nil) MetH.nil MetE.nil sk4T rfl rfl fixN fun g => ⟨rfl, g, rfl⟩
    · have hb : (hits vs ls)[k]? = some true := by
        unfold hits
        rw [List.getElem?_map, hy]
        show some (hitB vs y) = _
        rw [hall y (List.mem_of_getElem? hy)]
      exact FRwp.pieceN E4_ok follows 60 1 _ _ _ _ (llT_0 false false false o ls (hits vs ls) [] 0 0 ls.length 0 k ⟨0, false, 0, 0, 0, 0, 0⟩ (0, 0, 0) (0, 0, 0) g) (Met.cons (wrap_up (by omega)) (Met.cons (bload (by rw [heapOf0_get]; rfl) hb) (Met.cons (bidx hk) (Met.cons (hlt1 (decide_eq_true hk)) Met.nil)))) MetH.nil MetE.nil sk4T rfl rfl (fb _) fun g => ⟨rfl, g, rfl⟩
  rintro st ⟨-, g, rfl⟩
  exact FRwp.pieceN E4_ok follows 60 0 _ _ _ _ (llH_0 false false false o ls [] [] 0 0 ls.length 0 0 ⟨0, false, 0, 0, 0, 0, 0⟩ (0, 0, 0) (0, 0, 0) g) Met.nil MetH.nil MetE.nil sk4h rfl rfl (noFix _) fun g => ⟨rfl, g, rfl⟩
end Go.Proofs.Ytgeoommlmddgpaa.LtL
namespace Go.Proofs.Ytgeoommlmddgpaa.LtL
open Go Go.Proofs Go.Proofs.Ytgeoommlmddgpaa.AI Go.RowKit Go.ChangeShapes Go.Proofs.Ytgeoommlmddgpaa.LtA

theorem laidV : laidOutB Try.prog = true := by kernel_rfl
theorem ownV : ownKnob Try.prog.godebug = none := by kernel_rfl
theorem endsV {e : Exit} {st : St} (h : EndsV e st) : (e = .normal ∨ e = .ret) ∧ st.df = [] ∧ retVal Try.prog Try.f4 st = some (.bool true) := by
  obtain ⟨rfl, g, rfl⟩ := h
  exact ⟨.inr rfl, rfl, q4 _ _ _⟩
theorem walkV {H : Type} {enc : TypeId × Value → H} (W : World) (base : Nat) (args : Array Value) (ds : List (DataW H)) (p : List MemPlace) (hsz : args.size = 1) (hval : ∀ (j : Nat) t v, Try.f4.params[j]? = some t → args[j]? = some v → Value.okWide Try.prog W .any base t v)
    (hA : DataW.TrodAll enc Try.prog W 0 (fun _ => true) true [22] args.toList ds p) : Calls Try.prog 4 args W fun e W' => e = .returned (.bool true) ∧ Below W.heap.size W W' := by
  obtain ⟨vl, rfl⟩ : ∃ vl, args = #[vl] := by
    obtain ⟨l⟩ := args
    match l, hsz with
    | [a], _ => exact ⟨a, rfl⟩
  obtain ⟨v1, vs1, d1, ds1, p1, q1, e1, _, _, hT, _⟩ := trodAll_cons hA
  cases e1
  obtain ⟨f, o, vs, m, hi, sim, ro, rv, hmax, hrow, hfl⟩ := row_argF (hval 0 22 vl (by kernel_rfl) rfl) hT
  refine law_end Try.func4 body4 ntmps4 W (args0 := [vS f 0 vs.length 2]) (by simp) (heapOf_ok _ _ hp0_ok) sim ro (.cons rv .nil) fun W => ?_
  exact FRwp.mono (lawV_fr f o vs 2 hi hrow hfl W) fun e st h => endsV h
theorem params4 : ∀ t ∈ Try.f4.params.toList, Try.prog.readableRec t = true ∧ t < Try.prog.types.size := by
  have h : Try.f4.params.toList.all (fun t => Try.prog.readableRec t && decide (t < Try.prog.types.size)) = true := by kernel_rfl
  intro t ht
  have := List.all_eq_true.1 h t ht
  simpa using this
theorem lifted4 (os : Os) (started : os.Started) (H : Type) (enc : TypeId × Value → H) :
    ReturnsInHanded {} Try.checked os 4 .any (Rows.linksLevelsSpec.pre6 enc Try.prog Try.f4 Rows.linksLevelsRow.domain false) (Rows.linksLevelsSpec.post enc Try.prog Try.f4 false true false false) :=
  law_lifted (C := Try.checked) (tb := 4) started ownV (by kernel_rfl) Try.func4 laidV params4 rfl (by kernel_rfl) Try.underlying4
    (fun ds hl => by
      match ds, hl with
      | [_], _ => rfl)
    (ChangeSpec.witness6 (enc := enc) (C := Try.checked) false ⟨#[], #[nilS], []⟩ 8 (by kernel_rfl) (by kernel_rfl) (by kernel_rfl) (by kernel_rfl))
    (fun W base args ds p hsz hval hA => walkV W base args ds p hsz hval hA)

/-- The statement. -/
theorem linksLevels_proved : Rows.LinksLevelsSaid :=
  OpenClaim.holds_of_wide 4 Try.f4 rfl rfl rfl rfl rfl rfl rfl ⟨rfl, rfl, rfl, rfl, rfl⟩ rfl rfl rfl rfl rfl (by kernel_rfl) Try.func4 (by kernel_rfl)
    (of_decide_eq_true (by kernel_rfl)) (by unfold Func.isWrapper; first | (rw [if_pos (by decide +kernel)]; kernel_rfl) | (rw [if_neg (by decide +kernel)]; exact ⟨rfl, rfl⟩))
    (fun os started H enc _ => lifted4 os started H enc)
#print axioms linksLevels_proved
end Go.Proofs.Ytgeoommlmddgpaa.LtL
