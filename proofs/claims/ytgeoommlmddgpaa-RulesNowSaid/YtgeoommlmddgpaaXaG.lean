/- slices.Compact at rows of api.Level: its runs. -/
import Derived.Test.YtgeoommlmddgpaaXaF
set_option linter.unusedVariables false
set_option linter.unusedSimpArgs false
set_option maxRecDepth 100000
namespace Go.Proofs.Ytgeoommlmddgpaa.LtL
open Go Go.Proofs Go.Proofs.Ytgeoommlmddgpaa.AI Go.RowKit Go.Proofs.Ytgeoommlmddgpaa.Sort Go.Proofs.Ytgeoommlmddgpaa.LtA

def lA (x : Lev) : Value := .agg ⟨lc x⟩
def slL (off n : Nat) : Value := .slice (some ⟨0, off, none⟩) n 11
noncomputable def E45 : Ext := extH Try.prog []
theorem E45_ok : ExtOk Try.prog E45 := extH_ok .nil
noncomputable def fb45 : Code := (Try.f45.body).getD .skip
theorem ntmps45 : Try.f45.ntmps = 61 := by kernel_rfl
theorem q45 (v : Value) (O : List Blk) (g : Nat → Value) : retVal Try.prog Try.f45 (stOf 61 g [(2, v)] O) = some v := by kernel_rfl
def cT : Code → Code
  | .cond _ a _ => a
  | c => c
noncomputable def k45a : Code := sL (fb45)
theorem sk45a : codeSafe Try.prog 61 k45a = true := by kernel_rfl
noncomputable def k45b : Code := sL (sL (sR (fb45)))
theorem sk45b : codeSafe Try.prog 61 k45b = true := by kernel_rfl
noncomputable def k45c : Code := sR (sL (sR (fb45)))
theorem sk45c : codeSafe Try.prog 61 k45c = true := by kernel_rfl
noncomputable def k45d : Code := sL (sL (sR (sR (fb45))))
theorem sk45d : codeSafe Try.prog 61 k45d = true := by kernel_rfl
noncomputable def k45La : Code := sL (unL (unB (sR (sL (sR (sR (fb45)))))))
theorem sk45La : codeSafe Try.prog 61 k45La = true := by kernel_rfl
noncomputable def k45Lba : Code := sL (unB (sL (sR (unL (unB (sR (sL (sR (sR (fb45))))))))))
theorem sk45Lba : codeSafe Try.prog 61 k45Lba = true := by kernel_rfl
noncomputable def k45Lbb : Code := cT (sR (unB (sL (sR (unL (unB (sR (sL (sR (sR (fb45)))))))))))
noncomputable def k45Lc : Code := sR (sR (unL (unB (sR (sL (sR (sR (fb45))))))))
noncomputable def k45I0 : Code := sL (sL (sR (cT (sR (unB (sL (sR (unL (unB (sR (sL (sR (sR (fb45))))))))))))))
theorem sk45I0 : codeSafe Try.prog 61 k45I0 = true := by kernel_rfl
noncomputable def k45IL : Code := unL (unB (sR (sL (sR (cT (sR (unB (sL (sR (unL (unB (sR (sL (sR (sR (fb45))))))))))))))))
theorem sk45IL : codeSafe Try.prog 61 k45IL = true := by kernel_rfl
noncomputable def k45Ie : Code := sR (sR (cT (sR (unB (sL (sR (unL (unB (sR (sL (sR (sR (fb45)))))))))))))
theorem sk45Ie : codeSafe Try.prog 61 k45Ie = true := by kernel_rfl
noncomputable def k45z : Code := sR (sR (sR (fb45)))
theorem sk45z : codeSafe Try.prog 61 k45z = true := by kernel_rfl
noncomputable abbrev code45 : Code := .seq k45a (.seq (.seq k45b k45c) (.seq (.seq k45d (.block 0 (.loop (.seq k45La (.seq (.block 1 (.seq k45Lba (.cond (.tmp 25) (.seq (sL k45Lbb) (.seq (.seq k45I0 (.block 2 (.loop k45IL))) k45Ie)) .skip))) k45Lc))))) k45z))
theorem codeB45 : Try.f45.body = some code45 := by kernel_rfl
section
theorem A_0 (us : List Lev) (n : Nat) : (execN Try.prog (aCall Try.prog E45 5) (callN Try.prog E45 5) 30 k45a ⟨tmsOf [slL 0 n] 0 .leaf, heapOf [lB us, .dead] hp0, []⟩ (acc0 [])).map (fun y => (look2 1 [0] [0] (y.1, y.2.1), y.2.2.q, y.2.2.r, y.2.2.x)) =
    some ((.normal, [lB us], [(0, slL 0 n)], true), [], [], []) := by kernel_rfl
end
section
theorem B_0 (us : List Lev) (n : Nat) (g : Nat → Value) : (execN Try.prog (aCall Try.prog E45 5) (callN Try.prog E45 5) 30 (.seq k45b k45c) (stOf 61 g [(0, slL 0 n)] [lB us]) (acc0 [(2, .v (.bool true))])).map (fun y => (look2 1 [0] [2] (y.1, y.2.1), y.2.2.q, y.2.2.r, y.2.2.x)) =
    some ((.ret, [lB us], [(2, slL 0 n)], true), [(some (.bool (decide ((Int.ofNat n) < (Int.ofNat 2)))), .bool true)], [], []) := by kernel_rfl
theorem B_1 (us : List Lev) (n : Nat) (g : Nat → Value) : (execN Try.prog (aCall Try.prog E45 5) (callN Try.prog E45 5) 30 (.seq k45b k45c) (stOf 61 g [(0, slL 0 n)] [lB us]) (acc0 [(2, .v (.bool false))])).map (fun y => (look2 1 [0] [0] (y.1, y.2.1), y.2.2.q, y.2.2.r, y.2.2.x)) =
    some ((.normal, [lB us], [(0, slL 0 n)], true), [(some (.bool (decide ((Int.ofNat n) < (Int.ofNat 2)))), .bool false)], [], []) := by kernel_rfl
end
section
theorem D_0 (us : List Lev) (n : Nat) (g : Nat → Value) : (execN Try.prog (aCall Try.prog E45 5) (callN Try.prog E45 5) 30 k45d (stOf 61 g [(0, slL 0 n)] [lB us]) (acc0 [])).map (fun y => (look2 1 [0] [0, 3] (y.1, y.2.1), y.2.2.q, y.2.2.r, y.2.2.x)) =
    some ((.normal, [lB us], [(0, slL 0 n), (3, iN 1)], true), [], [], []) := by kernel_rfl
end
section
theorem X_0 (us : List Lev) (n q : Nat) (g : Nat → Value) : (execN Try.prog (aCall Try.prog E45 5) (callN Try.prog E45 5) 30 k45La (stOf 61 g [(0, slL 0 n), (3, iN (q + 1))] [lB us]) (acc0 [(3, .v (.bool true))])).map (fun y => (look2 1 [0] [0, 3] (y.1, y.2.1), y.2.2.q, y.2.2.r, y.2.2.x)) =
    some ((.normal, [lB us], [(0, slL 0 n), (3, iN (q + 1))], true), [(some (.bool (decide ((Int.ofNat (q + 1)) < (Int.ofNat n)))), .bool true)], [], []) := by kernel_rfl
theorem X_1 (us : List Lev) (n q : Nat) (g : Nat → Value) : (execN Try.prog (aCall Try.prog E45 5) (callN Try.prog E45 5) 30 k45La (stOf 61 g [(0, slL 0 n), (3, iN (q + 1))] [lB us]) (acc0 [(3, .v (.bool false))])).map (fun y => (look2 1 [0] [0, 3] (y.1, y.2.1), y.2.2.q, y.2.2.r, y.2.2.x)) =
    some ((.exit 0, [lB us], [(0, slL 0 n), (3, iN (q + 1))], true), [(some (.bool (decide ((Int.ofNat (q + 1)) < (Int.ofNat n)))), .bool false)], [], []) := by kernel_rfl
end
section
theorem Y_0 (us : List Lev) (n q : Nat) (x y : Lev) (g : Nat → Value) : (execN Try.prog (aCall Try.prog E45 5) (callN Try.prog E45 5) 30 k45Lba (stOf 61 g [(0, slL 0 n), (3, iN (q + 1))] [lB us]) (acc0 [(9, .v (.bool true)), (8, .v (lA y)), (7, .v (pb 0 (q * 3))), (6, .v (iN q)), (3, .v (lA x)), (2, .v (pb 0 ((q + 1) * 3)))])).map (fun y => (look2 1 [0] [0, 3, 25] (y.1, y.2.1), y.2.2.q, y.2.2.r, y.2.2.x)) =
    some ((.normal, [lB us], [(0, slL 0 n), (3, iN (q + 1)), (25, .bool true)], true), [(fstV ((aBin Try.prog .eql 42 (lA x) (lA y)).map fun v => (v, none)), .bool true), (aLoad Try.prog (heapOf [lB us, .dead] hp0).get 42 (pb 0 (q * 3)), lA y), (fstV ((aIndexAddr Try.prog 34 (slL 0 n) (iN q)).map fun v => (v, none)), pb 0 (q * 3)), (some (.int .i64 (wrapF .i64 (Int.ofNat (q + 1) - Int.ofNat 1))), iN q), (aLoad Try.prog (heapOf [lB us, .dead] hp0).get 42 (pb 0 ((q + 1) * 3)), lA x), (fstV ((aIndexAddr Try.prog 34 (slL 0 n) (iN (q + 1))).map fun v => (v, none)), pb 0 ((q + 1) * 3))], [], []) := by kernel_rfl
end
noncomputable abbrev kR45 : Code := .seq (.block 1 (.seq k45Lba (.cond (.tmp 25) (.seq (sL k45Lbb) (.seq (.seq k45I0 (.block 2 (.loop k45IL))) k45Ie)) .skip))) k45Lc
theorem sR45 : codeSafe Try.prog 61 kR45 = true := by kernel_rfl
section
theorem V_0 (us : List Lev) (n q : Nat) (x y : Lev) (g : Nat → Value) : (execN Try.prog (aCall Try.prog E45 5) (callN Try.prog E45 5) 30 kR45 (stOf 61 g [(0, slL 0 n), (3, iN (q + 1))] [lB us]) (acc0 [(11, .v (iN ((q + 1) + 1))), (9, .v (.bool false)), (8, .v (lA y)), (7, .v (pb 0 (q * 3))), (6, .v (iN q)), (3, .v (lA x)), (2, .v (pb 0 ((q + 1) * 3)))])).map (fun y => (look2 1 [0] [0, 3] (y.1, y.2.1), y.2.2.q, y.2.2.r, y.2.2.x)) =
    some ((.normal, [lB us], [(0, slL 0 n), (3, iN ((q + 1) + 1))], true), [(some (.int .i64 (wrapF .i64 (Int.ofNat (q + 1) + Int.ofNat 1))), iN ((q + 1) + 1)), (fstV ((aBin Try.prog .eql 42 (lA x) (lA y)).map fun v => (v, none)), .bool false), (aLoad Try.prog (heapOf [lB us, .dead] hp0).get 42 (pb 0 (q * 3)), lA y), (fstV ((aIndexAddr Try.prog 34 (slL 0 n) (iN q)).map fun v => (v, none)), pb 0 (q * 3)), (some (.int .i64 (wrapF .i64 (Int.ofNat (q + 1) - Int.ofNat 1))), iN q), (aLoad Try.prog (heapOf [lB us, .dead] hp0).get 42 (pb 0 ((q + 1) * 3)), lA x), (fstV ((aIndexAddr Try.prog 34 (slL 0 n) (iN (q + 1))).map fun v => (v, none)), pb 0 ((q + 1) * 3))], [], []) := by kernel_rfl
end
section
end
section
theorem T_0 (us : List Lev) (n q : Nat) (g : Nat → Value) : (execN Try.prog (aCall Try.prog E45 5) (callN Try.prog E45 5) 30 (sL k45Lbb) (stOf 61 g [(0, slL 0 n), (3, iN (q + 1))] [lB us]) (acc0 [(2, .v (slL ((q + 1) * 3) (n - (q + 1))))])).map (fun y => (look2 1 [0] [0, 3, 4] (y.1, y.2.1), y.2.2.q, y.2.2.r, y.2.2.x)) =
    some ((.normal, [lB us], [(0, slL 0 n), (3, iN (q + 1)), (4, slL ((q + 1) * 3) (n - (q + 1)))], true), [(fstV ((aSlice Try.prog 34 (slL 0 n) (some (iN (q + 1))) none none).map fun v => (v, none)), slL ((q + 1) * 3) (n - (q + 1)))], [], []) := by kernel_rfl
end
section
theorem I_0 (us : List Lev) (n p : Nat) (g : Nat → Value) : (execN Try.prog (aCall Try.prog E45 5) (callN Try.prog E45 5) 30 k45I0 (stOf 61 g [(0, slL 0 n), (3, iN (p + 1)), (4, slL ((p + 1) * 3) (n - (p + 1)))] [lB us]) (acc0 [])).map (fun y => (look2 1 [0] [0, 3, 4, 5] (y.1, y.2.1), y.2.2.q, y.2.2.r, y.2.2.x)) =
    some ((.normal, [lB us], [(0, slL 0 n), (3, iN (p + 1)), (4, slL ((p + 1) * 3) (n - (p + 1))), (5, iN 1)], true), [], [], []) := by kernel_rfl
end
section
theorem J_0 (us vs : List Lev) (n p j m : Nat) (x y : Lev) (g : Nat → Value) : (execN Try.prog (aCall Try.prog E45 5) (callN Try.prog E45 5) 30 k45IL (stOf 61 g [(0, slL 0 n), (3, iN m), (4, slL ((p + 1) * 3) (n - (p + 1))), (5, iN (j + 1))] [lB us]) (acc0 [(26, .v (iN ((j + 1) + 1))), (23, .v (iN (m + 1))), (21, .e undef [.put 0 (lB vs)]), (20, .v (pb 0 (m * 3))), (19, .v (lA x)), (18, .v (pb 0 (((p + 1) + (j + 1)) * 3))), (13, .v (.bool true)), (12, .v (lA y)), (11, .v (pb 0 (((p + 1) + j) * 3))), (10, .v (iN j)), (7, .v (lA x)), (6, .v (pb 0 (((p + 1) + (j + 1)) * 3))), (3, .v (.bool true))])).map (fun y => (look2 1 [0] [0, 3, 4, 5] (y.1, y.2.1), y.2.2.q, y.2.2.r, y.2.2.x)) =
    some ((.normal, [lB vs], [(0, slL 0 n), (3, iN (m + 1)), (4, slL ((p + 1) * 3) (n - (p + 1))), (5, iN ((j + 1) + 1))], true), [(some (.int .i64 (wrapF .i64 (Int.ofNat (j + 1) + Int.ofNat 1))), iN ((j + 1) + 1)), (some (.int .i64 (wrapF .i64 (Int.ofNat m + Int.ofNat 1))), iN (m + 1)), (fstV ((aIndexAddr Try.prog 34 (slL 0 n) (iN m)).map fun v => (v, none)), pb 0 (m * 3)), (aLoad Try.prog (heapOf [lB us, .dead] hp0).get 42 (pb 0 (((p + 1) + (j + 1)) * 3)), lA x), (fstV ((aIndexAddr Try.prog 34 (slL ((p + 1) * 3) (n - (p + 1))) (iN (j + 1))).map fun v => (v, none)), pb 0 (((p + 1) + (j + 1)) * 3)), (fstV ((aBin Try.prog .neq 42 (lA x) (lA y)).map fun v => (v, none)), .bool true), (aLoad Try.prog (heapOf [lB us, .dead] hp0).get 42 (pb 0 (((p + 1) + j) * 3)), lA y), (fstV ((aIndexAddr Try.prog 34 (slL ((p + 1) * 3) (n - (p + 1))) (iN j)).map fun v => (v, none)), pb 0 (((p + 1) + j) * 3)), (some (.int .i64 (wrapF .i64 (Int.ofNat (j + 1) - Int.ofNat 1))), iN j), (aLoad Try.prog (heapOf [lB us, .dead] hp0).get 42 (pb 0 (((p + 1) + (j + 1)) * 3)), lA x), (fstV ((aIndexAddr Try.prog 34 (slL ((p + 1) * 3) (n - (p + 1))) (iN (j + 1))).map fun v => (v, none)), pb 0 (((p + 1) + (j + 1)) * 3)), (some (.bool (decide ((Int.ofNat (j + 1)) < (Int.ofNat (n - (p + 1)))))), .bool true)], [], [((aStore Try.prog (heapOf [lB us, .dead] hp0).get 42 (pb 0 (m * 3)) (lA x)).map (fun es => (undef, es)), (undef, [.put 0 (lB vs)]))]) := by kernel_rfl
theorem J_1 (us vs : List Lev) (n p j m : Nat) (x y : Lev) (g : Nat → Value) : (execN Try.prog (aCall Try.prog E45 5) (callN Try.prog E45 5) 30 k45IL (stOf 61 g [(0, slL 0 n), (3, iN m), (4, slL ((p + 1) * 3) (n - (p + 1))), (5, iN (j + 1))] [lB us]) (acc0 [(15, .v (iN ((j + 1) + 1))), (13, .v (.bool false)), (12, .v (lA y)), (11, .v (pb 0 (((p + 1) + j) * 3))), (10, .v (iN j)), (7, .v (lA x)), (6, .v (pb 0 (((p + 1) + (j + 1)) * 3))), (3, .v (.bool true))])).map (fun y => (look2 1 [0] [0, 3, 4, 5] (y.1, y.2.1), y.2.2.q, y.2.2.r, y.2.2.x)) =
    some ((.normal, [lB us], [(0, slL 0 n), (3, iN m), (4, slL ((p + 1) * 3) (n - (p + 1))), (5, iN ((j + 1) + 1))], true), [(some (.int .i64 (wrapF .i64 (Int.ofNat (j + 1) + Int.ofNat 1))), iN ((j + 1) + 1)), (fstV ((aBin Try.prog .neq 42 (lA x) (lA y)).map fun v => (v, none)), .bool false), (aLoad Try.prog (heapOf [lB us, .dead] hp0).get 42 (pb 0 (((p + 1) + j) * 3)), lA y), (fstV ((aIndexAddr Try.prog 34 (slL ((p + 1) * 3) (n - (p + 1))) (iN j)).map fun v => (v, none)), pb 0 (((p + 1) + j) * 3)), (some (.int .i64 (wrapF .i64 (Int.ofNat (j + 1) - Int.ofNat 1))), iN j), (aLoad Try.prog (heapOf [lB us, .dead] hp0).get 42 (pb 0 (((p + 1) + (j + 1)) * 3)), lA x), (fstV ((aIndexAddr Try.prog 34 (slL ((p + 1) * 3) (n - (p + 1))) (iN (j + 1))).map fun v => (v, none)), pb 0 (((p + 1) + (j + 1)) * 3)), (some (.bool (decide ((Int.ofNat (j + 1)) < (Int.ofNat (n - (p + 1)))))), .bool true)], [], []) := by kernel_rfl
theorem J_2 (us vs : List Lev) (n p j m : Nat) (x y : Lev) (g : Nat → Value) : (execN Try.prog (aCall Try.prog E45 5) (callN Try.prog E45 5) 30 k45IL (stOf 61 g [(0, slL 0 n), (3, iN m), (4, slL ((p + 1) * 3) (n - (p + 1))), (5, iN (j + 1))] [lB us]) (acc0 [(3, .v (.bool false))])).map (fun y => (look2 1 [0] [0, 3] (y.1, y.2.1), y.2.2.q, y.2.2.r, y.2.2.x)) =
    some ((.exit 2, [lB us], [(0, slL 0 n), (3, iN m)], true), [(some (.bool (decide ((Int.ofNat (j + 1)) < (Int.ofNat (n - (p + 1)))))), .bool false)], [], []) := by kernel_rfl
end
section
theorem Z_0 (us : List Lev) (zs : List Value) (n m : Nat) (g : Nat → Value) : (execN Try.prog (aCall Try.prog E45 5) (callN Try.prog E45 5) 30 k45Ie (stOf 61 g [(0, slL 0 n), (3, iN m)] [lB us]) (acc0 [(6, .v (slL 0 m)), (3, .e (.tuple #[]) [.put 0 (.cells 42 zs false)]), (2, .v (slL (m * 3) (n - m)))])).map (fun y => (look2 1 [0] [2] (y.1, y.2.1), y.2.2.q, y.2.2.r, y.2.2.x)) =
    some ((.ret, [.cells 42 zs false], [(2, slL 0 m)], true), [(fstV ((aSlice Try.prog 34 (slL 0 n) none (some (iN m)) none).map fun v => (v, none)), slL 0 m), (fstV ((aSlice Try.prog 34 (slL 0 n) (some (iN m)) none none).map fun v => (v, none)), slL (m * 3) (n - m))], [], [(aClear Try.prog (heapOf [lB us, .dead] hp0).get [34] [slL (m * 3) (n - m)], (.tuple #[], [.put 0 (.cells 42 zs false)]))]) := by kernel_rfl
end
section
theorem E_0 (us : List Lev) (n : Nat) (g : Nat → Value) : (execN Try.prog (aCall Try.prog E45 5) (callN Try.prog E45 5) 30 k45z (stOf 61 g [(0, slL 0 n)] [lB us]) (acc0 [])).map (fun y => (look2 1 [0] [2] (y.1, y.2.1), y.2.2.q, y.2.2.r, y.2.2.x)) =
    some ((.ret, [lB us], [(2, slL 0 n)], true), [], [], []) := by kernel_rfl
end
end Go.Proofs.Ytgeoommlmddgpaa.LtL
namespace Go.Proofs.Ytgeoommlmddgpaa.LtL
open Go Go.Proofs Go.Proofs.Ytgeoommlmddgpaa.AI Go.RowKit Go.Proofs.Ytgeoommlmddgpaa.Sort Go.Proofs.Ytgeoommlmddgpaa.LtA

/-! ### The list without repetitions next to one another -/
def dedS (a : List Lev) (y : Lev) : List Lev := if a.getLast? = some y then a else a ++ [y]
def ded (ls : List Lev) : List Lev := ls.foldl dedS []
theorem ded_snoc (l : List Lev) (y : Lev) : ded (l ++ [y]) = dedS (ded l) y := by unfold ded; rw [List.foldl_append]; rfl
theorem dedS_last (a : List Lev) (y : Lev) : (dedS a y).getLast? = some y := by
  unfold dedS
  split
  · assumption
  · simp
theorem ded_last {l : List Lev} {y : Lev} (h : l.getLast? = some y) : (ded l).getLast? = some y := by
  rcases List.eq_nil_or_concat l with rfl | ⟨l', z, rfl⟩
  · cases h
  · rw [List.concat_eq_append] at h ⊢
    have : z = y := by simpa using h
    rw [ded_snoc, dedS_last, this]
theorem take_snoc {l : List Lev} {i : Nat} {x : Lev} (h : l[i]? = some x) : l.take (i + 1) = l.take i ++ [x] := by
  rw [List.take_add_one, h]; rfl
theorem take_last {l : List Lev} {i : Nat} {x : Lev} (h : l[i]? = some x) : (l.take (i + 1)).getLast? = some x := by
  rw [take_snoc h]; simp
theorem ded_len (l : List Lev) : (ded l).length ≤ l.length := by
  have key : ∀ (l a : List Lev), (l.foldl dedS a).length ≤ a.length + l.length := by
    intro l
    induction l with
    | nil => intro a; simp
    | cons y l ih =>
      intro a
      have h1 := ih (dedS a y)
      have h2 : (dedS a y).length ≤ a.length + 1 := by unfold dedS; split <;> simp
      rw [List.foldl_cons, List.length_cons]; omega
  have := key l []
  rw [List.length_nil, Nat.zero_add] at this
  exact this
theorem ded_more {l : List Lev} {i : Nat} {x y : Lev} (h1 : l[i]? = some y) (h2 : l[i + 1]? = some x) : ded (l.take (i + 1 + 1)) = if y = x then ded (l.take (i + 1)) else ded (l.take (i + 1)) ++ [x] := by
  rw [take_snoc h2, ded_snoc]
  unfold dedS
  rw [ded_last (take_last h1)]
  simp
/-! ### What is owed -/
theorem eqLev (x y : Lev) : fstV ((aBin Try.prog .eql 42 (lA x) (lA y)).map fun v => (v, none)) = some (.bool (x == y)) := by
  obtain ⟨a, b, c⟩ := x
  obtain ⟨d, e, f⟩ := y
  have h : aBin Try.prog .eql 42 (lA (a, b, c)) (lA (d, e, f)) = (andE (a == d) (andE (b == e) (andE (c == f) (some true)))).map .bool := by kernel_rfl
  rw [h]
  simp only [andE_some, Bool.and_true]
  rfl
theorem neLev (x y : Lev) : fstV ((aBin Try.prog .neq 42 (lA x) (lA y)).map fun v => (v, none)) = some (.bool (!(x == y))) := by
  obtain ⟨a, b, c⟩ := x
  obtain ⟨d, e, f⟩ := y
  have h : aBin Try.prog .neq 42 (lA (a, b, c)) (lA (d, e, f)) = (andE (a == d) (andE (b == e) (andE (c == f) (some true)))).map fun b => .bool (!b) := by kernel_rfl
  rw [h]
  simp only [andE_some, Bool.and_true]
  rfl
theorem sizeL : tsize Try.prog 42 = some 3 := by kernel_rfl
theorem aggL : tagg Try.prog 42 = some true := by kernel_rfl
theorem lidx {off m i : Nat} (h : i < m) : fstV ((aIndexAddr Try.prog 34 (slL off m) (iN i)).map fun v => (v, none)) = some (.pointer (some ⟨0, off + i * 3, none⟩)) := by
  have h1 : (0 : Int) ≤ Int.ofNat i ∧ Int.ofNat i < (m : Int) := ⟨Int.natCast_nonneg i, by simpa using h⟩
  simp only [aIndexAddr, slL, iN, Try.underlying34, sizeL]
  rw [if_pos h1]
  simp [fstV]
theorem lidx0 {m i : Nat} (h : i < m) : fstV ((aIndexAddr Try.prog 34 (slL 0 m) (iN i)).map fun v => (v, none)) = some (pb 0 (i * 3)) := by rw [lidx h, Nat.zero_add]; rfl
theorem lidxk {p m i : Nat} (h : i < m) : fstV ((aIndexAddr Try.prog 34 (slL (p * 3) m) (iN i)).map fun v => (v, none)) = some (pb 0 ((p + i) * 3)) := by rw [lidx h, Nat.add_mul]; rfl
theorem lload {hp : Hp} {us : List Lev} {i : Nat} {x : Lev} (hg : hp.get 0 = some (lB us)) (h : us[i]? = some x) : aLoad Try.prog hp.get 42 (pb 0 (i * 3)) = some (lA x) := by
  simp only [aLoad, pb, hg, lB, aggL, sizeL]
  have := flat_getR (f := lc) (k := 3) (ps := us) (fun _ _ => rfl) h
  unfold lrow
  rw [this]
  rfl
theorem putL_midL {A B C D : List Value} {k : Nat} (hk : A.length = k) (hl : D.length = B.length) : putL (A ++ B ++ C) k D = A ++ D ++ C := by
  apply List.ext_getElem?
  intro j
  rw [putL_get]
  by_cases h1 : j < k
  · rw [if_neg (by omega), List.append_assoc, List.append_assoc, List.getElem?_append_left (by omega), List.getElem?_append_left (by omega)]
  · by_cases h2 : j < k + D.length
    · rw [if_pos ⟨by omega, h2, by simp; omega⟩, List.append_assoc A D C, List.getElem?_append_right (by omega), List.getElem?_append_left (by omega), hk]
    · rw [if_neg (by omega), List.getElem?_append_right (by simp; omega), List.getElem?_append_right (by simp; omega)]
      congr 1; simp; omega
theorem lrow_app (a b : List Lev) : lrow (a ++ b) = lrow a ++ lrow b := by unfold lrow; rw [List.flatMap_append]
theorem lrow_set {us : List Lev} {i : Nat} (h : i < us.length) (y : Lev) : putL (lrow us) (i * 3) (lc y) = lrow (us.set i y) := by
  have e1 : us = us.take i ++ us[i] :: us.drop (i + 1) := by rw [List.getElem_cons_drop, List.take_append_drop]
  have e2 : us.set i y = us.take i ++ y :: us.drop (i + 1) := List.set_eq_take_append_cons_drop.trans (if_pos h)
  have f : ∀ z : Lev, lrow (us.take i ++ z :: us.drop (i + 1)) = lrow (us.take i) ++ lc z ++ lrow (us.drop (i + 1)) := fun z => by rw [lrow_app]; show _ ++ (lc z ++ lrow _) = _; rw [List.append_assoc]
  have l1 : (lrow (us.take i)).length = i * 3 := by rw [lrow_len, List.length_take]; congr 1; omega
  rw [e2, f]
  conv => lhs; rw [e1, f]
  exact putL_midL l1 rfl
theorem lstore {hp : Hp} {us : List Lev} {i : Nat} (hg : hp.get 0 = some (lB us)) (h : i < us.length) (y : Lev) : (aStore Try.prog hp.get 42 (pb 0 (i * 3)) (lA y)).map (fun es => (undef, es)) = some (undef, [.put 0 (lB (us.set i y))]) := by
  have hl : i * 3 + 3 ≤ (lrow us).length := by rw [lrow_len]; omega
  have e : aStore Try.prog hp.get 42 (pb 0 (i * 3)) (lA y) = some [.put 0 (.cells 42 (putL (lrow us) (i * 3) (lc y)) false)] := by
    unfold aStore
    simp only [pb, hg, lB, sizeL]
    exact if_pos (by show (decide (3 = 3) && true && decide (i * 3 + 3 ≤ (lrow us).length)) = true; simp [hl])
  rw [e, lrow_set h]
  rfl
theorem lsl_lo {n k : Nat} (h : k ≤ n) : fstV ((aSlice Try.prog 34 (slL 0 n) (some (iN k)) none none).map fun v => (v, none)) = some (slL (k * 3) (n - k)) := by
  have h1 : (0 : Int) ≤ Int.ofNat k ∧ Int.ofNat k ≤ (n : Int) := ⟨Int.natCast_nonneg k, by simpa using h⟩
  have h0 : (0 : Int) ≤ (n : Int) ∧ (n : Int) ≤ ((n + 0 : Nat) : Int) := ⟨Int.natCast_nonneg n, by simp⟩
  simp only [aSlice, slL, iN, Try.underlying34, sizeL, bound]
  rw [if_pos h1]
  simp [fstV, flagOf, wide]
theorem lsl_hi {n k : Nat} (h : k ≤ n) : fstV ((aSlice Try.prog 34 (slL 0 n) none (some (iN k)) none).map fun v => (v, none)) = some (slL 0 k) := by
  have h1 : (0 : Int) ≤ Int.ofNat k ∧ Int.ofNat k ≤ ((n + spareOf 11 : Nat) : Int) := ⟨Int.natCast_nonneg k, by simp only [Int.ofNat_eq_natCast]; exact Int.ofNat_le.2 (by omega)⟩
  simp only [aSlice, slL, iN, Try.underlying34, sizeL, bound]
  rw [if_pos h1]
  simp [fstV, flagOf, wide]
noncomputable def z3 : List Value := (tzero Try.prog 42).getD []
theorem zeroLe : tzero Try.prog 42 = some z3 := by kernel_rfl
theorem z3_len : z3.length = 3 := by kernel_rfl
theorem z3_inert : z3.all inert = true := by kernel_rfl
theorem repL_len (z : List Value) : ∀ n, (repL z n).length = n * z.length
  | 0 => by simp [repL]
  | n + 1 => by rw [repL, List.length_append, repL_len z n, Nat.succ_mul]; omega
theorem repL_inert {z : List Value} (h : z.all inert = true) : ∀ n, (repL z n).all inert = true
  | 0 => rfl
  | n + 1 => by rw [repL, List.all_append, h, repL_inert h n]; rfl
theorem lclear {hp : Hp} {us : List Lev} {k : Nat} (hg : hp.get 0 = some (lB us)) (h : k < us.length) : aClear Try.prog hp.get [34] [slL (k * 3) (us.length - k)] = some (.tuple #[], [.put 0 (.cells 42 (lrow (us.take k) ++ repL z3 (us.length - k)) false)]) := by
  have e1 : lrow us = lrow (us.take k) ++ lrow (us.drop k) := by rw [← lrow_app, List.take_append_drop]
  have l1 : (lrow (us.take k)).length = k * 3 := by rw [lrow_len, List.length_take]; congr 1; omega
  have l2 : (lrow (us.drop k)).length = (us.length - k) * 3 := by rw [lrow_len, List.length_drop]
  have l3 : (repL z3 (us.length - k)).length = (us.length - k) * 3 := by rw [repL_len, z3_len]
  unfold aClear
  simp only [slL, Try.underlying34]
  rw [if_neg (by omega)]
  simp only [zeroLe, hg, lB]
  rw [if_pos (by rw [l3, lrow_len]; omega), e1]
  have := putL_midL (A := lrow (us.take k)) (B := lrow (us.drop k)) (C := []) (D := repL z3 (us.length - k)) l1 (by rw [l3, l2])
  rw [List.append_nil, List.append_nil] at this
  rw [this]
/-! ### Its own frame -/
noncomputable def tailC (ls : List Lev) : List Value := lrow (ded ls) ++ repL z3 (ls.length - (ded ls).length)
def EndsC (ls : List Lev) (e : Exit) (st : St) : Prop := e = .ret ∧ ∃ g, st = stOf 61 g [(2, slL 0 (ded ls).length)] [.cells 42 (tailC ls) false]
theorem get0 (b : Blk) : (heapOf [b, .dead] hp0).get 0 = some b := by rw [heapOf0_get]; rfl
theorem ltN {a b : Nat} : decide (Int.ofNat a < Int.ofNat b) = decide (a < b) := decide_eq_decide.2 (by simp only [Int.ofNat_eq_natCast]; omega)
theorem tailC_inert (ls : List Lev) : (tailC ls).all inert = true := by unfold tailC; rw [List.all_append, lrow_inert, repL_inert z3_inert]; rfl
theorem stOf_less {N : Nat} {g : Nat → Value} {L : List (Nat × Value)} {O : List Blk} (L2 : List (Nat × Value)) : ∃ g', stOf N g (L ++ L2) O = stOf N g' L O := by
  refine ⟨frame g L2, ?_⟩
  unfold stOf
  congr 2
  funext t
  unfold frame
  rw [List.find?_append]
  cases L.find? fun p => Nat.beq p.1 t <;> rfl
/-- What is left, behind the first repetition. -/
theorem compI_fr (ls : List Lev) (hn : ls.length < 1000000) (p : Nat) (hp : p + 1 < ls.length) {y : Lev} (h1 : ls[p]? = some y) (h2 : ls[p + 1]? = some y) (hd : ded (ls.take (p + 1)) = ls.take (p + 1)) (g : Nat → Value) (W : Base) :
    FRwp Try.prog 61 W (.seq (sL k45Lbb) (.seq (.seq k45I0 (.block 2 (.loop k45IL))) k45Ie)) (stOf 61 g [(0, slL 0 ls.length), (3, iN (p + 1))] [lB ls]) (EndsC ls) := by
  have fx : ∀ (us : List Lev) (r : List Blk), ∀ i, i < 1 → ∀ o', (lB us :: r)[i]? = some o' → Fixed 0 o' := fun us => fix11 (lB_inert us)
  have sT : codeSafe Try.prog 61 (sL k45Lbb) = true := by kernel_rfl
  refine FRwp.seq (Q1 := fun e st => e = .normal ∧ ∃ g, st = stOf 61 g [(0, slL 0 ls.length), (3, iN (p + 1)), (4, slL ((p + 1) * 3) (ls.length - (p + 1)))] [lB ls]) (FRwp.pieceN E45_ok follows 5 1 _ _ _ _ (T_0 ls ls.length p g) (Met.cons (lsl_lo (by omega)) Met.nil) MetH.nil MetE.nil sT rfl rfl (fx ls _) fun g => ⟨rfl, g, rfl⟩) ?_ (fun x st hne hq => absurd hq.1 hne)
  rintro st ⟨-, g, rfl⟩
  refine FRwp.seq (Q1 := fun e st => e = .normal ∧ ∃ (us : List Lev) (m : Nat) (g : Nat → Value), m = (ded ls).length ∧ us = ded ls ++ ls.drop m ∧ m < ls.length ∧ st = stOf 61 g [(0, slL 0 ls.length), (3, iN m)] [lB us]) ?_ ?_ (fun x st hne hq => absurd hq.1 hne)
  · refine FRwp.seq (Q1 := fun e st => e = .normal ∧ ∃ g, st = stOf 61 g [(0, slL 0 ls.length), (3, iN (p + 1)), (4, slL ((p + 1) * 3) (ls.length - (p + 1))), (5, iN 1)] [lB ls]) (FRwp.pieceN E45_ok follows 5 1 _ _ _ _ (I_0 ls ls.length p g) Met.nil MetH.nil MetE.nil sk45I0 rfl rfl (fx ls _) fun g => ⟨rfl, g, rfl⟩) ?_ (fun x st hne hq => absurd hq.1 hne)
    rintro st ⟨-, g, rfl⟩
    refine FRwp.block ?_
    let I : Nat → St → Prop := fun k st => ∃ (j m : Nat) (us a : List Lev) (g : Nat → Value), (p + 1) + (j + 1) ≤ ls.length ∧ k = ls.length - j ∧ m ≤ (p + 1) + j ∧ a = ded (ls.take ((p + 1) + (j + 1))) ∧ a.length = m ∧ us = a ++ ls.drop m ∧
      st = stOf 61 g [(0, slL 0 ls.length), (3, iN m), (4, slL ((p + 1) * 3) (ls.length - (p + 1))), (5, iN (j + 1))] [lB us]
    have start : I ls.length (stOf 61 g [(0, slL 0 ls.length), (3, iN (p + 1)), (4, slL ((p + 1) * 3) (ls.length - (p + 1))), (5, iN 1)] [lB ls]) := by
      have hm := ded_more h1 h2
      rw [if_pos rfl, hd] at hm
      refine ⟨0, p + 1, ls, ls.take (p + 1), g, by omega, by omega, by omega, hm.symm, by rw [List.length_take]; omega, (List.take_append_drop _ _).symm, rfl⟩
    refine FRwp.loop I ?_ (k := ls.length) start
    rintro k st ⟨j, m, us, a, g, hj, hk, hm, ha, hal, hus, rfl⟩
    have hul : us.length = ls.length := by rw [hus, List.length_append, hal, List.length_drop]; omega
    have hget : ∀ i, m ≤ i → us[i]? = ls[i]? := fun i hi => by
      rw [hus, List.getElem?_append_right (by omega), List.getElem?_drop]
      congr 1; omega
    cases h : decide (Int.ofNat (j + 1) < Int.ofNat (ls.length - (p + 1))) with
    | false =>
      have h3 : (p + 1) + (j + 1) = ls.length := by rw [ltN] at h; have := of_decide_eq_false h; omega
      refine FRwp.pieceN E45_ok follows 5 1 _ _ _ _ (J_2 us us ls.length p j m y y g) (Met.cons (bool_ok h) Met.nil) MetH.nil MetE.nil sk45IL rfl rfl (fx us _) fun g => .inr ⟨by simp, ?_⟩
      show (if (2 : Nat) = 2 then _ else _)
      rw [if_pos rfl]
      rw [h3, List.take_of_length_le (Nat.le_refl _)] at ha
      subst ha
      exact ⟨rfl, us, m, g, hal.symm, hus, by omega, rfl⟩
    | true =>
      have hlt : (p + 1) + (j + 1) < ls.length := by rw [ltN] at h; have := of_decide_eq_true h; omega
      obtain ⟨x, hx⟩ : ∃ x, ls[(p + 1) + (j + 1)]? = some x := ⟨_, List.getElem?_eq_getElem hlt⟩
      obtain ⟨z, hz⟩ : ∃ z, ls[(p + 1) + j]? = some z := ⟨_, List.getElem?_eq_getElem (by omega)⟩
      have hux := (hget _ (by omega)).trans hx
      have huz := (hget _ hm).trans hz
      have hmore := ded_more (i := (p + 1) + j) hz hx
      have hR : ∀ {b : Bool}, (!(x == z)) = b → AI.Met ([(fstV ((aBin Try.prog .neq 42 (lA x) (lA z)).map fun v => (v, none)), .bool b), (aLoad Try.prog (heapOf [lB us, .dead] hp0).get 42 (pb 0 (((p + 1) + j) * 3)), lA z), (fstV ((aIndexAddr Try.prog 34 (slL ((p + 1) * 3) (ls.length - (p + 1))) (iN j)).map fun v => (v, none)), pb 0 (((p + 1) + j) * 3)), (some (.int .i64 (wrapF .i64 (Int.ofNat (j + 1) - Int.ofNat 1))), iN j), (aLoad Try.prog (heapOf [lB us, .dead] hp0).get 42 (pb 0 (((p + 1) + (j + 1)) * 3)), lA x), (fstV ((aIndexAddr Try.prog 34 (slL ((p + 1) * 3) (ls.length - (p + 1))) (iN (j + 1))).map fun v => (v, none)), pb 0 (((p + 1) + (j + 1)) * 3)), (some (.bool (decide ((Int.ofNat (j + 1)) < (Int.ofNat (ls.length - (p + 1)))))), .bool true)]) := fun {b} hb =>
        Met.cons ((neLev x z).trans (bool_ok hb)) (Met.cons (lload (get0 _) huz) (Met.cons (lidxk (by omega)) (Met.cons (wrap_down (by omega)) (Met.cons (lload (get0 _) hux) (Met.cons (lidxk (by omega)) (Met.cons (bool_ok h) Met.nil))))))
      cases hxz : (!(x == z)) with
      | true =>
        have hne : ¬ z = x := fun e => by rw [e] at hxz; simp at hxz
        have hset : us.set m x = (a ++ [x]) ++ ls.drop (m + 1) := by
          rw [hus, List.set_append_right _ _ (by omega), hal, Nat.sub_self]
          obtain ⟨w, hw⟩ : ∃ w, ls[m]? = some w := ⟨_, List.getElem?_eq_getElem (by omega)⟩
          have e : ls.drop m = w :: ls.drop (m + 1) := by
            rw [List.getElem?_eq_getElem (by omega)] at hw
            rw [List.drop_eq_getElem_cons (by omega)]
            have : ls[m] = w := by simpa using hw
            rw [this]
          rw [e]
          simp
        refine FRwp.pieceN E45_ok follows 5 1 _ _ _ _ (J_0 us (us.set m x) ls.length p j m x z g)
          (Met.cons (wrap_up (by omega)) (Met.cons (wrap_up (by omega)) (Met.cons (lidx0 (by omega)) (Met.cons (lload (get0 _) hux) (Met.cons (lidxk (by omega)) (hR hxz))))))
          MetH.nil (MetE.cons (lstore (get0 _) (by omega) x) MetE.nil) sk45IL rfl rfl (fx _ _) fun g => .inl ⟨rfl, ls.length - (j + 1), by omega, j + 1, m + 1, us.set m x, a ++ [x], g, by omega, rfl, by omega, ?_, by simp [hal], hset, rfl⟩
        rw [ha]
        exact (hmore.trans (if_neg hne)).symm
      | false =>
        have he : z = x := by
          have : (x == z) = true := by simpa using hxz
          exact (by simpa using this : x = z).symm
        refine FRwp.pieceN E45_ok follows 5 1 _ _ _ _ (J_1 us us ls.length p j m x z g)
          (Met.cons (wrap_up (by omega)) (hR hxz))
          MetH.nil MetE.nil sk45IL rfl rfl (fx _ _) fun g => .inl ⟨rfl, ls.length - (j + 1), by omega, j + 1, m, us, a, g, by omega, rfl, by omega, ?_, hal, hus, rfl⟩
        rw [ha]
        exact (hmore.trans (if_pos he)).symm
  · rintro st ⟨-, us, m, g, hm, hus, hlt, rfl⟩
    have hul : us.length = ls.length := by rw [hus, List.length_append, List.length_drop]; omega
    have htk : us.take m = ded ls := by rw [hus, hm]; simp
    have hcl := lclear (get0 (lB us)) (by omega : m < us.length)
    rw [htk, hul] at hcl
    have hsl := lsl_hi (n := ls.length) (k := m) (by omega)
    have hsl2 := lsl_lo (n := ls.length) (k := m) (by omega)
    refine FRwp.pieceN E45_ok follows 5 1 _ _ _ _ (Z_0 us (lrow (ded ls) ++ repL z3 (ls.length - m)) ls.length m g) (Met.cons hsl (Met.cons hsl2 Met.nil)) MetH.nil (MetE.cons hcl MetE.nil) sk45Ie rfl rfl (fix11 (by show List.all _ inert = true; rw [List.all_append, lrow_inert, repL_inert z3_inert]; rfl) _) fun g => ⟨rfl, g, ?_⟩
    unfold tailC
    rw [hm]
theorem comp_fr (ls : List Lev) (hn : ls.length < 1000000) (W : Base) : FRwp Try.prog 61 W code45 ⟨tmsOf [slL 0 ls.length] 0 .leaf, heapOf [lB ls, .dead] hp0, []⟩ (EndsC ls) := by
  have fx : ∀ (us : List Lev) (r : List Blk), ∀ i, i < 1 → ∀ o', (lB us :: r)[i]? = some o' → Fixed 0 o' := fun us => fix11 (lB_inert us)
  have hall : ded ls = ls → ∀ {e st}, (e = .ret ∧ ∃ g, st = stOf 61 g [(2, slL 0 ls.length)] [lB ls]) → EndsC ls e st := fun h e st q => by
    unfold EndsC tailC
    rw [h, Nat.sub_self]
    show (_ ∧ ∃ g, st = stOf 61 g _ [.cells 42 (lrow ls ++ []) false])
    rw [List.append_nil]; exact q
  refine FRwp.seq (Q1 := fun e st => e = .normal ∧ ∃ g, st = stOf 61 g [(0, slL 0 ls.length)] [lB ls]) (FRwp.pieceN E45_ok follows 5 1 _ _ _ _ (A_0 ls ls.length) Met.nil MetH.nil MetE.nil sk45a rfl rfl (fx ls _) fun g => ⟨rfl, g, rfl⟩) ?_ (fun x st hne hq => absurd hq.1 hne)
  rintro st ⟨-, g, rfl⟩
  let Q1 : Exit → St → Prop := fun e st => (e = .normal ∧ 2 ≤ ls.length ∧ ∃ g, st = stOf 61 g [(0, slL 0 ls.length)] [lB ls]) ∨ EndsC ls e st
  refine FRwp.seq (Q1 := Q1) ?_ ?_ ?_
  · have hs : codeSafe Try.prog 61 (.seq k45b k45c) = true := by simp only [codeSafe, sk45b, sk45c]; rfl
    cases h : decide (Int.ofNat ls.length < Int.ofNat 2) with
    | true =>
      have h2 : ls.length < 2 := by rw [ltN] at h; exact of_decide_eq_true h
      have hd : ded ls = ls := by
        match ls, h2 with
        | [], _ => rfl
        | [x], _ => rfl
      exact FRwp.pieceN E45_ok follows 5 1 _ _ _ _ (B_0 ls ls.length g) (Met.cons (bool_ok h) Met.nil) MetH.nil MetE.nil hs rfl rfl (fx ls _) fun g => .inr (hall hd ⟨rfl, g, rfl⟩)
    | false =>
      have h2 : 2 ≤ ls.length := by rw [ltN] at h; have := of_decide_eq_false h; omega
      exact FRwp.pieceN E45_ok follows 5 1 _ _ _ _ (B_1 ls ls.length g) (Met.cons (bool_ok h) Met.nil) MetH.nil MetE.nil hs rfl rfl (fx ls _) fun g => .inl ⟨rfl, h2, g, rfl⟩
  · rintro st (⟨-, h2, g, rfl⟩ | ⟨h, -⟩)
    · let Q2 : Exit → St → Prop := fun e st => (e = .normal ∧ ded ls = ls ∧ ∃ g, st = stOf 61 g [(0, slL 0 ls.length)] [lB ls]) ∨ EndsC ls e st
      refine FRwp.seq (Q1 := Q2) ?_ ?_ ?_
      · refine FRwp.seq (Q1 := fun e st => e = .normal ∧ ∃ g, st = stOf 61 g [(0, slL 0 ls.length), (3, iN 1)] [lB ls]) (FRwp.pieceN E45_ok follows 5 1 _ _ _ _ (D_0 ls ls.length g) Met.nil MetH.nil MetE.nil sk45d rfl rfl (fx ls _) fun g => ⟨rfl, g, rfl⟩) ?_ (fun x st hne hq => absurd hq.1 hne)
        rintro st ⟨-, g, rfl⟩
        refine FRwp.block ?_
        have start : ∃ q g', q + 1 ≤ ls.length ∧ ls.length = ls.length - q ∧ ded (ls.take (q + 1)) = ls.take (q + 1) ∧ stOf 61 g [(0, slL 0 ls.length), (3, iN 1)] [lB ls] = stOf 61 g' [(0, slL 0 ls.length), (3, iN (q + 1))] [lB ls] := by
          obtain ⟨x, hx⟩ : ∃ x, ls[0]? = some x := ⟨_, List.getElem?_eq_getElem (by omega)⟩
          exact ⟨0, g, by omega, by omega, by rw [take_snoc hx]; rfl, rfl⟩
        refine FRwp.loop (fun k st => ∃ q g, q + 1 ≤ ls.length ∧ k = ls.length - q ∧ ded (ls.take (q + 1)) = ls.take (q + 1) ∧ st = stOf 61 g [(0, slL 0 ls.length), (3, iN (q + 1))] [lB ls]) ?_ (k := ls.length) start
        rintro k st ⟨q, g, hq, hk, hd, rfl⟩
        obtain ⟨y, hy⟩ : ∃ y, ls[q]? = some y := ⟨_, List.getElem?_eq_getElem (by omega)⟩
        refine FRwp.seq (Q1 := fun e st => (e = .normal ∧ q + 1 < ls.length ∧ ∃ g, st = stOf 61 g [(0, slL 0 ls.length), (3, iN (q + 1))] [lB ls]) ∨ (e = .exit 0 ∧ q + 1 = ls.length ∧ ∃ g, st = stOf 61 g [(0, slL 0 ls.length), (3, iN (q + 1))] [lB ls])) ?_ ?_ ?_
        · cases h : decide (Int.ofNat (q + 1) < Int.ofNat ls.length) with
          | true =>
            have h3 : q + 1 < ls.length := by rw [ltN] at h; exact of_decide_eq_true h
            exact FRwp.pieceN E45_ok follows 5 1 _ _ _ _ (X_0 ls ls.length q g) (Met.cons (bool_ok h) Met.nil) MetH.nil MetE.nil sk45La rfl rfl (fx ls _) fun g => .inl ⟨rfl, h3, g, rfl⟩
          | false =>
            have h3 : q + 1 = ls.length := by rw [ltN] at h; have := of_decide_eq_false h; omega
            exact FRwp.pieceN E45_ok follows 5 1 _ _ _ _ (X_1 ls ls.length q g) (Met.cons (bool_ok h) Met.nil) MetH.nil MetE.nil sk45La rfl rfl (fx ls _) fun g => .inr ⟨rfl, h3, g, rfl⟩
        · rintro st (⟨-, hlt, g, rfl⟩ | ⟨h, -⟩)
          · obtain ⟨x, hx⟩ : ∃ x, ls[q + 1]? = some x := ⟨_, List.getElem?_eq_getElem hlt⟩
            have hm := ded_more hy hx
            have met : ∀ {b : Bool}, (x == y) = b → AI.Met [(fstV ((aBin Try.prog .eql 42 (lA x) (lA y)).map fun v => (v, none)), .bool b), (aLoad Try.prog (heapOf [lB ls, .dead] hp0).get 42 (pb 0 (q * 3)), lA y), (fstV ((aIndexAddr Try.prog 34 (slL 0 ls.length) (iN q)).map fun v => (v, none)), pb 0 (q * 3)), (some (.int .i64 (wrapF .i64 (Int.ofNat (q + 1) - Int.ofNat 1))), iN q), (aLoad Try.prog (heapOf [lB ls, .dead] hp0).get 42 (pb 0 ((q + 1) * 3)), lA x), (fstV ((aIndexAddr Try.prog 34 (slL 0 ls.length) (iN (q + 1))).map fun v => (v, none)), pb 0 ((q + 1) * 3))] := fun h =>
              Met.cons ((eqLev x y).trans (bool_ok h)) (Met.cons (lload (get0 _) hy) (Met.cons (lidx0 (by omega)) (Met.cons (wrap_down (by omega)) (Met.cons (lload (get0 _) hx) (Met.cons (lidx0 (by omega)) Met.nil)))))
            cases hxy : (x == y) with
            | false =>
              have hne : ¬ y = x := fun e => by rw [e] at hxy; simp at hxy
              refine FRwp.pieceN E45_ok follows 5 1 _ _ _ _ (V_0 ls ls.length q x y g) (Met.cons (wrap_up (by omega)) (met hxy)) MetH.nil MetE.nil sR45 rfl rfl (fx ls _) fun g => .inl ⟨rfl, ls.length - (q + 1), by omega, q + 1, g, by omega, rfl, ?_, rfl⟩
              rw [hm, if_neg hne, hd, take_snoc hx]
            | true =>
              have he : x = y := by simpa using hxy
              subst he
              refine FRwp.seq (Q1 := EndsC ls) (FRwp.block ?_) (fun st h => by cases h.1) (fun e st hne h => ?_)
              · have e1 : ∀ {e st}, EndsC ls e st → (match e with | .exit i => if i = 1 then EndsC ls .normal st else EndsC ls (.exit i) st | e => EndsC ls e st) := fun {e st} h => by
                  obtain ⟨rfl, h⟩ := h
                  exact ⟨rfl, h⟩
                refine FRwp.mono (?_ : FRwp Try.prog 61 W _ _ (EndsC ls)) fun e st h => e1 h
                refine FRwp.seq (Q1 := fun e st => e = .normal ∧ ∃ g, st = stOf 61 g [(0, slL 0 ls.length), (3, iN (q + 1)), (25, .bool true)] [lB ls]) (FRwp.pieceN E45_ok follows 5 1 _ _ _ _ (Y_0 ls ls.length q x x g) (met hxy) MetH.nil MetE.nil sk45Lba rfl rfl (fx ls _) fun g => ⟨rfl, g, rfl⟩) ?_ (fun x st hne hq => absurd hq.1 hne)
                rintro st ⟨-, g, rfl⟩
                obtain ⟨g', eg⟩ := stOf_less (N := 61) (g := g) (L := [(0, slL 0 ls.length), (3, iN (q + 1))]) (O := [lB ls]) [(25, .bool true)]
                refine FRwp.cond_true rfl rfl ?_
                show FRwp Try.prog 61 W _ (stOf 61 g ([(0, slL 0 ls.length), (3, iN (q + 1))] ++ [(25, .bool true)]) [lB ls]) _
                rw [eg]
                exact compI_fr ls hn q hlt hy hx hd g' W
              · obtain ⟨rfl, h⟩ := h
                exact .inr ⟨by simp, .inr ⟨rfl, h⟩⟩
          · cases h
        · rintro e st hne (⟨h, -⟩ | ⟨rfl, h3, g, rfl⟩)
          · exact absurd h hne
          · refine .inr ⟨by simp, ?_⟩
            show (if (0 : Nat) = 0 then Q2 .normal _ else Q2 (.exit 0) _)
            rw [if_pos rfl]
            refine .inl ⟨rfl, ?_, ?_⟩
            · rw [h3, List.take_of_length_le (Nat.le_refl _)] at hd; exact hd
            · exact stOf_less (L := [(0, slL 0 ls.length)]) [(3, iN (q + 1))]
      · rintro st (⟨-, hd, g, rfl⟩ | ⟨h, -⟩)
        · exact FRwp.pieceN E45_ok follows 5 1 _ _ _ _ (E_0 ls ls.length g) Met.nil MetH.nil MetE.nil sk45z rfl rfl (fx ls _) fun g => hall hd ⟨rfl, g, rfl⟩
        · cases h
      · rintro e st hne (⟨h, -⟩ | h)
        · exact absurd h hne
        · exact h
    · cases h
  · rintro e st hne (⟨h, -⟩ | h)
    · exact absurd h hne
    · exact h
end Go.Proofs.Ytgeoommlmddgpaa.LtL
namespace Go.Proofs.Ytgeoommlmddgpaa.LtL
open Go Go.Proofs Go.Proofs.Ytgeoommlmddgpaa.AI Go.RowKit Go.Proofs.Ytgeoommlmddgpaa.Sort Go.Proofs.Ytgeoommlmddgpaa.LtA

theorem getL_app {L1 L2 : List Value} {i : Nat} {v : Value} (h : L1[i]? = some v) : (L1 ++ L2)[i]? = some v := by
  rw [List.getElem?_append_left (List.getElem?_eq_some_iff.1 h).1]; exact h
theorem cutL_goal {P : Program} {f : FuncId} {g g2 : HeapFn} (hg : CallGoal P f g)
    (H : ∀ args hp v hp2, g2 args hp = some (v, hp2) → hp.ok → ∃ hp1, g args hp = some (v, hp1) ∧ hp2.ok ∧ hp2.sz = hp1.sz ∧
      ∀ b, hp2.get b = hp1.get b ∨ (hp.sz ≤ b ∧ b < hp1.sz ∧ ∃ ty L1 L2, hp1.get b = some (.cells ty (L1 ++ L2) false) ∧ hp2.get b = some (.cells ty L1 false))) : CallGoal P f g2 := by
  intro args hp v hp2 he hk
  obtain ⟨hp1, h1, hk2, hsz, hcut⟩ := H args hp v hp2 he hk
  obtain ⟨hk1, hle, hgo⟩ := hg args hp v hp1 h1 hk
  refine ⟨hk2, by rw [hsz]; exact hle, fun m h w args' hfr s ra => ?_⟩
  have step : ∀ v' w', (∃ m', Go1 m (ovr hp h) w m' (ovr hp1 h) w' ∧ VRel m' (ovr hp1 h) v v') → ∃ m', Go1 m (ovr hp h) w m' (ovr hp2 h) w' ∧ VRel m' (ovr hp2 h) v v' := ?_
  · rcases hgo m h w args' (fun b a c => hfr b a (by rw [hsz]; exact c)) s ra with ⟨v', w', q1, q2⟩ | ⟨q1, q2⟩
    · exact .inl ⟨v', w', q1, step v' w' q2⟩
    · exact .inr ⟨q1, q2.mono fun e w' hh => by
        obtain ⟨v', h1, h2⟩ := hh
        exact ⟨v', h1, step v' w' h2⟩⟩
  rintro v' w' ⟨m', go, rv⟩
  have hov : ∀ b, ovr hp2 h b = ovr hp1 h b ∨ (hp.sz ≤ b ∧ b < hp1.sz ∧ ∃ ty L1 L2, ovr hp1 h b = some (.cells ty (L1 ++ L2) false) ∧ ovr hp2 h b = some (.cells ty L1 false)) := by
    intro b
    unfold ovr
    rw [hsz]
    by_cases hb : b < hp1.sz
    · simp only [if_pos hb]
      rcases hcut b with e | ⟨q1, q2, q3⟩
      · exact .inl e
      · exact .inr ⟨q1, q2, q3⟩
    · exact .inl (by rw [if_neg hb, if_neg hb])
  have hrw : ∀ b, rw? (ovr hp2 h) b = rw? (ovr hp1 h) b := fun b => by
    unfold rw?
    rcases hov b with e | ⟨_, _, ty, L1, L2, e1, e2⟩
    · rw [e]
    · rw [e1, e2]
  have hlv : ∀ b, live? (ovr hp2 h) b = live? (ovr hp1 h) b := fun b => by
    unfold live?
    rcases hov b with e | ⟨_, _, ty, L1, L2, e1, e2⟩
    · rw [e]
    · rw [e1, e2]
  have le2 : Le m' (ovr hp1 h) m' (ovr hp2 h) := ⟨fun b hb => (by
    rcases hov b with e | ⟨_, _, ty, L1, L2, e1, _⟩
    · rw [e]; exact hb
    · rw [e1] at hb; cases hb), fun b x hx => .inr hx⟩
  refine ⟨m', ⟨go.le.trans le2, ⟨fun b x hx => ?_, fun b b' x x' hx hx' hr hl e => go.sim.inj b b' x x' hx hx' (by rw [← hrw]; exact hr) (by rw [← hlv]; exact hl) e⟩, go.size, go.new, go.frame, go.un, fun b o hb hm => ?_, fun b o hb => ?_, fun b x hx hr => go.rwb b x hx (by rw [← hrw]; exact hr), go.os, go.tape, go.output⟩, rv.mono le2⟩
  · obtain ⟨o, ho, hbr⟩ := go.sim.dom b x hx
    rcases hov b with e | ⟨_, _, ty, L1, L2, e1, e2⟩
    · exact ⟨o, by rw [e]; exact ho, hbr.mono le2 rfl⟩
    · rw [e1] at ho; cases ho
      obtain ⟨c, fr, k1, k2, k3, k4, k5⟩ := hbr
      refine ⟨_, e2, c, fr, k1, by rw [List.length_append] at k2; omega, k3, fun i v v' p1 p2 => (k4 i v v' (getL_app p1) p2).mono le2, ⟨k5.1, fun h => by cases h⟩⟩
  · have := go.idle b o hb hm
    rcases hov b with e | ⟨q1, q2, _⟩
    · rw [e]; exact this
    · have hn := hfr b q1 (by rw [hsz]; exact q2)
      unfold ovr at hb
      rw [if_neg (by omega)] at hb
      rw [hn] at hb; cases hb
  · obtain ⟨o', ho'⟩ := go.ex b o hb
    rcases hov b with e | ⟨_, _, ty, L1, L2, e1, e2⟩
    · exact ⟨o', by rw [e]; exact ho'⟩
    · exact ⟨_, e2⟩
/-- One row of scalars that is the caller's, at a frame's beginning. -/
theorem startL_sim {m : BM} {h : HG} {w : World} {hp : Hp} (s : Sim m (ovr hp h) w) (hk : hp.ok) {b : Nat} {t1 : TypeId} {L : List Value} (h1 : hp.get b = some (.cells t1 L false)) (i1 : L.all inert = true)
    {r δ E : Nat} (hm : m b = some (r, δ, E)) : Sim (canM m [b]) (heapOf [.cells t1 L false, .dead] hp0).get w := by
  have g1 := ovr_sub hk h b _ h1
  obtain ⟨o', ho', hbr⟩ := s.dom b _ hm
  rw [g1] at ho'; cases ho'
  obtain ⟨c, fr, q1, q2, q3, q4, q5⟩ := hbr
  have e0 : (heapOf [.cells t1 L false, .dead] hp0).get 0 = some (.cells t1 L false) := by rw [heapOf0_get]; rfl
  have cM : ∀ i x, canM m [b] i = some x → (i = 0 ∧ m b = some x) := by
    intro i x hx
    unfold canM at hx
    match i with
    | 0 => exact ⟨rfl, hx⟩
    | i + 1 => simp at hx
  refine ⟨fun i x hx => ?_, fun i i' x x' hx hx' hr hl hxx => ?_⟩
  · obtain ⟨rfl, hy⟩ := cM i x hx
    rw [hm] at hy; cases hy
    exact ⟨_, e0, c, fr, q1, q2, q3, fun i v v' p1 p2 => inert_any (List.all_eq_true.1 i1 v (List.mem_of_getElem? p1)) (q4 i v v' p1 p2), q5⟩
  · obtain ⟨rfl, _⟩ := cM i x hx
    obtain ⟨rfl, _⟩ := cM i' x' hx'
    rfl


open Classical in
noncomputable def gCoF : HeapFn := fun args hp => match args with
  | [.slice (some ⟨b, 0, none⟩) n c] => if h : ∃ ls : List Lev, hp.get b = some (lB ls) ∧ n = ls.length ∧ 0 < n ∧ n < 1000000 then some (.slice (some ⟨hp.sz, 0, none⟩) (ded h.choose).length 11, heapOf ([.cells 42 (tailC h.choose) false] ++ [.dead]) (killL [b] hp)) else none
  | _ => none
open Classical in
/-- slices.Compact, of a row of one level at least. -/
noncomputable def gCo : HeapFn := fun args hp => match args with
  | [.slice (some ⟨b, 0, none⟩) n c] => if h : ∃ ls : List Lev, hp.get b = some (lB ls) ∧ n = ls.length ∧ 0 < n ∧ n < 1000000 then some (.slice (some ⟨hp.sz, 0, none⟩) (ded h.choose).length 11, heapOf ([lB (ded h.choose)] ++ [.dead]) (killL [b] hp)) else none
  | _ => none
theorem slL_weak {m : BM} {h : HG} {b n c : Nat} {x : Value} (r : VRel m h (.slice (some ⟨b, 0, none⟩) n c) x) : VRel m h (.slice (some ⟨b, 0, none⟩) n 11) x := by
  obtain ⟨_, _, r1, o1, cap, q1, rfl, h0, hh⟩ := r.of_slice0
  cases q1
  refine .slice (.of h0.1 (by decide)) ?_
  rcases hh with hd | ⟨δ, E, h1, h2, _⟩
  · exact .inl hd
  · exact .inr ⟨δ, E, h1, h2, (fun h => by cases h), fun h => by cases h⟩
theorem hkCoF : CallGoal Try.prog 45 gCoF := kill_goal follows Try.func45 codeB45 (by kernel_rfl) fun args hp v hp' he hk => by
  unfold gCoF at he
  split at he
  case h_2 => cases he
  rename_i b n c
  split at he
  case isFalse => cases he
  rename_i hx
  obtain ⟨hb, hn, hn0, hn1⟩ := hx.choose_spec
  generalize hx.choose = ls at *
  cases he
  refine ⟨[b], [.cells 42 (tailC ls) false], rfl, fun b' hb' => ?_, fun m h w args' s ra => ?_⟩
  · have : b' = b := by simpa using hb'
    subst this
    exact ⟨_, hb, rfl⟩
  obtain ⟨v1, bs1, e1, r1, ra1⟩ := ra.of_cons
  have e4 := ra1.of_nil
  subst e4
  obtain ⟨_, _, rr, oo, cap, q1, rfl, hcap, hh⟩ := r1.of_slice0
  cases q1
  have gb := ovr_sub hk h b _ hb
  rcases hh with hd | ⟨δ, E, hm, hoff, hcok⟩
  · rw [gb] at hd; cases hd
  refine ⟨fun b' hb' => ?_, ?_⟩
  · have : b' = b := by simpa using hb'
    subst this
    exact ⟨_, hm⟩
  refine ⟨[0], [slL 0 n], heapOf [lB ls, .dead] hp0, canM m [b], rfl, rfl, heapOf_ok _ _ hp0_ok, startL_sim s hk hb (lrow_inert ls) hm, fun b' x hx _ => ?_, ?_, by rw [ntmps45]; simp, fun W => ?_⟩
  · unfold canM at hx
    match b' with
    | 0 => exact ⟨b, by simp, x, hx, rfl⟩
    | b' + 1 => simp at hx
  · rw [e1]
    exact .cons (.slice (.of hcap.1 (by decide)) (.inr ⟨δ, E, hm, hoff, (fun h => by cases h), fun h => by cases h⟩)) .nil
  · rw [ntmps45, hn]
    refine FRwp.mono (comp_fr ls (by omega) W) fun e st q => ?_
    obtain ⟨rfl, g, rfl⟩ := q
    have hI : inertB (.cells 42 (tailC ls) false) = true := tailC_inert ls
    have h0 : (stOf 61 g [(2, slL 0 (ded ls).length)] [.cells 42 (tailC ls) false]).hp.get 0 = some (.cells 42 (tailC ls) false) := get0 _
    refine ⟨.inr rfl, rfl, _, q45 _ _ g, rfl, fun b' hb' => ?_, fun m h x hx => ?_, ?_⟩
    · have : b' = 0 := by simpa using hb'
      subst this
      exact ⟨_, h0, ok2_inert hI, rfl⟩
    · have : sh3 [0] hp.sz (slL 0 (ded ls).length) = .slice (some ⟨hp.sz, 0, none⟩) (ded ls).length 11 := by simp [sh3, sh2, sh1, rho, idxOf, slL]
      rw [this] at hx
      exact slL_weak hx
    · simp only [outOf, List.map_cons, List.map_nil, h0, Option.getD_some, inert_shBlk hI]
theorem hkCo : CallGoal Try.prog 45 gCo := cutL_goal hkCoF fun args hp v hp2 he hk => by
  unfold gCo at he
  split at he
  case h_2 => cases he
  rename_i b n c
  split at he
  case isFalse => cases he
  rename_i hx
  cases he
  have hlt := lt_of_get hk hx.choose_spec.1
  refine ⟨heapOf ([.cells 42 (tailC hx.choose) false] ++ [.dead]) (killL [b] hp), by unfold gCoF; simp only; rw [dif_pos hx], ?_, ?_, fun b' => ?_⟩
  · refine heapOf_ok _ _ fun c hc => ?_
    rw [killL_sz] at hc
    rw [killL_get, if_neg (by simp; omega)]
    exact hk c hc
  · rw [heapOf_sz, heapOf_sz]; rfl
  · rw [heapOf_get, heapOf_get, killL_sz]
    by_cases h1 : b' < hp.sz
    · rw [if_pos h1, if_pos h1]; exact .inl rfl
    · rw [if_neg h1, if_neg h1]
      by_cases h2 : b' - hp.sz = 0
      · rw [h2]
        refine .inr ⟨by omega, by rw [heapOf_sz, killL_sz]; simp; omega, 42, lrow (ded hx.choose), repL z3 (hx.choose.length - (ded hx.choose).length), rfl, rfl⟩
      · obtain ⟨k, hk2⟩ : ∃ k, b' - hp.sz = k + 1 := ⟨b' - hp.sz - 1, by omega⟩
        rw [hk2]; exact .inl rfl
theorem gCo_of {ls : List Lev} {b n c : Nat} {hp : Hp} (hb : hp.get b = some (lB ls)) (hn : n = ls.length) (h0 : 0 < n) (h1 : n < 1000000) : gCo [.slice (some ⟨b, 0, none⟩) n c] hp = some (.slice (some ⟨hp.sz, 0, none⟩) (ded ls).length 11, heapOf [lB (ded ls), .dead] (hp.put b .dead)) := by
  unfold gCo
  have hx : ∃ ls : List Lev, hp.get b = some (lB ls) ∧ n = ls.length ∧ 0 < n ∧ n < 1000000 := ⟨ls, hb, hn, h0, h1⟩
  simp only
  rw [dif_pos hx]
  have e2 := hb.symm.trans hx.choose_spec.1
  unfold lB at e2
  injection e2 with e2
  injection e2 with _ e2 _
  have e3 := lrow_inj e2
  exact congrArg (fun l => some (Value.slice (some ⟨hp.sz, 0, none⟩) (ded l).length 11, heapOf ([lB (ded l)] ++ [.dead]) (killL [b] hp))) e3.symm
end Go.Proofs.Ytgeoommlmddgpaa.LtL
