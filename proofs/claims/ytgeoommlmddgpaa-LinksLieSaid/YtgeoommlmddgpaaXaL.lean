/- LinksLie, of the given program: for every views and two heights the law returns true, and the arguments read as they did. No condition. -/
import Derived.Test.YtgeoommlmddgpaaXaK
import Derived.Test.YtgeoommlmddgpaaXaI
import Derived.Test.YtgeoommlmddgpaaXaE
import Derived.Test.YtgeoommlmddgpaaRows
set_option linter.unusedVariables false
set_option linter.unusedSimpArgs false
set_option maxRecDepth 100000
namespace Go.Proofs.Ytgeoommlmddgpaa.LtL
open Go Go.Proofs Go.Proofs.Ytgeoommlmddgpaa.AI Go.RowKit Go.Proofs.Ytgeoommlmddgpaa.Sort Go.Proofs.Ytgeoommlmddgpaa.LtA

noncomputable def E20s : Ext := extH Try.prog []
theorem E20s_ok : ExtOk Try.prog E20s := extH_ok .nil
noncomputable def fb20s : Code := (Try.f20.body).getD .skip
theorem ntmps20s : Try.f20.ntmps = 26 := by kernel_rfl
noncomputable def k20sa : Code := sL (fb20s)
theorem sk20sa : codeSafe Try.prog 26 k20sa = true := by kernel_rfl
noncomputable def k20sb : Code := sL (sR (fb20s))
theorem sk20sb : codeSafe Try.prog 26 k20sb = true := by kernel_rfl
noncomputable def k20sc : Code := sL (sL (sR (sR (fb20s))))
theorem sk20sc : codeSafe Try.prog 26 k20sc = true := by kernel_rfl
noncomputable def k20sL : Code := unL (unB (sR (sL (sR (sR (fb20s))))))
theorem sk20sL : codeSafe Try.prog 26 k20sL = true := by kernel_rfl
noncomputable def k20sz : Code := sR (sR (sR (fb20s)))
theorem sk20sz : codeSafe Try.prog 26 k20sz = true := by kernel_rfl
noncomputable def k20sw : Code := fb20s
theorem sk20sw : codeSafe Try.prog 26 k20sw = true := by kernel_rfl
noncomputable abbrev code20s : Code := .seq k20sa (.seq k20sb (.seq (.seq k20sc (.block 0 (.loop k20sL))) k20sz))
theorem body20s : Try.f20.body = some code20s := by kernel_rfl
theorem saA_0 (A B : Blk) (n i : Nat) (z : Lev) (g : Nat → Value) : (execN Try.prog (aCall Try.prog E20s 60) (callN Try.prog E20s 60) 60 k20sa ⟨tmsOf [.slice (some ⟨0, 0, none⟩) n 11, .slice (some ⟨1, 0, none⟩) n 10] 0 .leaf, heapOf [A, B, .dead] hp0, []⟩ (acc0 [])).map (fun y => (look2 2 [0, 1] [0, 1] (y.1, y.2.1), y.2.2.q, y.2.2.r, y.2.2.x)) =
    some ((.normal, [A, B], [(0, .slice (some ⟨0, 0, none⟩) n 11), (1, .slice (some ⟨1, 0, none⟩) n 10)], true), [], [], []) := by kernel_rfl
theorem saB_0 (A B : Blk) (n i : Nat) (z : Lev) (g : Nat → Value) : (execN Try.prog (aCall Try.prog E20s 60) (callN Try.prog E20s 60) 60 k20sb (stOf 26 g [(0, .slice (some ⟨0, 0, none⟩) n 11), (1, .slice (some ⟨1, 0, none⟩) n 10)] [A, B]) (acc0 [(4, .v (.bool false))])).map (fun y => (look2 2 [0, 1] [0, 1] (y.1, y.2.1), y.2.2.q, y.2.2.r, y.2.2.x)) =
    some ((.normal, [A, B], [(0, .slice (some ⟨0, 0, none⟩) n 11), (1, .slice (some ⟨1, 0, none⟩) n 10)], true), [(some (.bool ((Int.ofNat n) != (Int.ofNat n))), .bool false)], [], []) := by kernel_rfl
theorem saC_0 (A B : Blk) (n i : Nat) (z : Lev) (g : Nat → Value) : (execN Try.prog (aCall Try.prog E20s 60) (callN Try.prog E20s 60) 60 k20sc (stOf 26 g [(0, .slice (some ⟨0, 0, none⟩) n 11), (1, .slice (some ⟨1, 0, none⟩) n 10)] [A, B]) (acc0 [])).map (fun y => (look2 2 [0, 1] [0, 1, 5] (y.1, y.2.1), y.2.2.q, y.2.2.r, y.2.2.x)) =
    some ((.normal, [A, B], [(0, .slice (some ⟨0, 0, none⟩) n 11), (1, .slice (some ⟨1, 0, none⟩) n 10), (5, iN 0)], true), [], [], []) := by kernel_rfl
theorem saL_1 (A B : Blk) (n i : Nat) (z : Lev) (g : Nat → Value) : (execN Try.prog (aCall Try.prog E20s 60) (callN Try.prog E20s 60) 60 k20sL (stOf 26 g [(0, .slice (some ⟨0, 0, none⟩) n 11), (1, .slice (some ⟨1, 0, none⟩) n 10), (5, iN i)] [A, B]) (acc0 [(14, .v (iN (i + 1))), (12, .v (.bool false)), (11, .v (lA z)), (10, .v (pb 1 (i * 3))), (7, .v (lA z)), (6, .v (pb 0 (i * 3))), (3, .v (.bool true))])).map (fun y => (look2 2 [0, 1] [0, 1, 5] (y.1, y.2.1), y.2.2.q, y.2.2.r, y.2.2.x)) =
    some ((.normal, [A, B], [(0, .slice (some ⟨0, 0, none⟩) n 11), (1, .slice (some ⟨1, 0, none⟩) n 10), (5, iN (i + 1))], true), [(some (.int .i64 (wrapF .i64 (Int.ofNat i + Int.ofNat 1))), iN (i + 1)), (fstV ((aBin Try.prog .neq 42 (lA z) (lA z)).map fun v => (v, none)), .bool false), (aLoad Try.prog (heapOf [A, B, .dead] hp0).get 42 (pb 1 (i * 3)), lA z), (fstV ((aIndexAddr Try.prog 34 (.slice (some ⟨1, 0, none⟩) n 10) (iN i)).map fun v => (v, none)), pb 1 (i * 3)), (aLoad Try.prog (heapOf [A, B, .dead] hp0).get 42 (pb 0 (i * 3)), lA z), (fstV ((aIndexAddr Try.prog 34 (.slice (some ⟨0, 0, none⟩) n 11) (iN i)).map fun v => (v, none)), pb 0 (i * 3)), (some (.bool (decide ((Int.ofNat i) < (Int.ofNat n)))), .bool true)], [], []) := by kernel_rfl
theorem saL_2 (A B : Blk) (n i : Nat) (z : Lev) (g : Nat → Value) : (execN Try.prog (aCall Try.prog E20s 60) (callN Try.prog E20s 60) 60 k20sL (stOf 26 g [(0, .slice (some ⟨0, 0, none⟩) n 11), (1, .slice (some ⟨1, 0, none⟩) n 10), (5, iN i)] [A, B]) (acc0 [(3, .v (.bool false))])).map (fun y => (look2 2 [] [] (y.1, y.2.1), y.2.2.q, y.2.2.r, y.2.2.x)) =
    some ((.exit 0, [], [], true), [(some (.bool (decide ((Int.ofNat i) < (Int.ofNat n)))), .bool false)], [], []) := by kernel_rfl
theorem saZ_0 (A B : Blk) (n i : Nat) (z : Lev) (g : Nat → Value) : (execN Try.prog (aCall Try.prog E20s 60) (callN Try.prog E20s 60) 60 k20sz (stOf 26 g [] []) (acc0 [])).map (fun y => (look2 0 [] [4] (y.1, y.2.1), y.2.2.q, y.2.2.r, y.2.2.x)) =
    some ((.ret, [], [(4, .bool true)], true), [], [], []) := by kernel_rfl
theorem saW_0 (A B : Blk) (n i : Nat) (z : Lev) (g : Nat → Value) : (execN Try.prog (aCall Try.prog E20s 60) (callN Try.prog E20s 60) 60 k20sw ⟨tmsOf [nilS, nilS] 0 .leaf, heapOf [.dead] hp0, []⟩ (acc0 [])).map (fun y => (look2 0 [] [4] (y.1, y.2.1), y.2.2.q, y.2.2.r, y.2.2.x)) =
    some ((.ret, [], [(4, .bool true)], true), [], [], []) := by kernel_rfl
theorem q20s (v : Value) (O : List Blk) (g : Nat → Value) : retVal Try.prog Try.f20 (stOf 26 g [(4, v)] O) = some v := by kernel_rfl
/-- Two rows of levels that are alike. -/
def SL (us : List Lev) (s t : Value) (hp : Hp) : Prop :=
  (s = nilS ∧ t = nilS) ∨ ∃ b1 b2, s = .slice (some ⟨b1, 0, none⟩) us.length 11 ∧ t = .slice (some ⟨b2, 0, none⟩) us.length 10 ∧ b1 ≠ b2 ∧ hp.get b1 = some (lB us) ∧ hp.get b2 = some (lB us)
open Classical in
noncomputable def gSL : HeapFn := fun args hp => match args with
  | [s, t] => if ∃ us, us.length < 1000000 ∧ SL us s t hp then some (.bool true, heapOf ([] ++ [.dead]) hp) else none
  | _ => none
noncomputable def E3l : Ext := extG (extH Try.prog [(19, g16), (12, g14), (13, g14)]) [(9, padF G34), (10, G22), (11, G11r), (15, G19), (16, G16r), (17, G20), (18, G18r), (14, gSI), (21, GLv), (22, G22r), (20, gSL), (23, gSM)]
noncomputable def fb3l : Code := (Try.f3.body).getD .skip
theorem ntmps3l : Try.f3.ntmps = 81 := by kernel_rfl
noncomputable def k3la : Code := sL (fb3l)
theorem sk3la : codeSafe Try.prog 81 k3la = true := by kernel_rfl
noncomputable def k3lb : Code := sL (sR (fb3l))
theorem sk3lb : codeSafe Try.prog 81 k3lb = true := by kernel_rfl
noncomputable def k3lc : Code := sL (sR (sR (fb3l)))
theorem sk3lc : codeSafe Try.prog 81 k3lc = true := by kernel_rfl
noncomputable def k3ld : Code := sL (sR (sR (sR (fb3l))))
theorem sk3ld : codeSafe Try.prog 81 k3ld = true := by kernel_rfl
noncomputable def k3le : Code := sL (sR (sR (sR (sR (fb3l)))))
theorem sk3le : codeSafe Try.prog 81 k3le = true := by kernel_rfl
noncomputable def k3lf : Code := sL (sR (sR (sR (sR (sR (fb3l))))))
theorem sk3lf : codeSafe Try.prog 81 k3lf = true := by kernel_rfl
noncomputable def k3lz : Code := sR (sR (sR (sR (sR (sR (fb3l))))))
theorem sk3lz : codeSafe Try.prog 81 k3lz = true := by kernel_rfl
noncomputable abbrev code3l : Code := .seq k3la (.seq k3lb (.seq k3lc (.seq k3ld (.seq k3le (.seq k3lf k3lz)))))
theorem body3l : Try.f3.body = some code3l := by kernel_rfl
theorem liA_0 (f fm fd fp fl nb : Bool) (o OV DB PB LB : Blk) (n c dn pn m : Nat) (nz : Int) (own h : ViewV) (g : Nat → Value) : (execN Try.prog (aCall Try.prog E3l 60) (callN Try.prog E3l 60) 60 k3la ⟨tmsOf [vS f 0 n c, hcA own, hcA h] 0 .leaf, heapOf [o, .dead] hp0, []⟩ (acc0 [])).map (fun y => (look2 1 [0, 2, 3] [0, 4, 5] (y.1, y.2.1), y.2.2.q, y.2.2.r, y.2.2.x)) =
    some ((.normal, [o, .cells 24 [.bool own.n, .int .i64 own.t, .int .i64 own.o, .int .i64 own.r, .int .i64 own.d, .int .i64 own.i] false, .cells 24 [.bool h.n, .int .i64 h.t, .int .i64 h.o, .int .i64 h.r, .int .i64 h.d, .int .i64 h.i] false], [(0, vS f 0 n c), (4, pb 1 0), (5, pb 2 0)], true), [], [], []) := by cases f <;> kernel_rfl
theorem liB_0 (f fm fd fp fl nb : Bool) (o OV DB PB LB : Blk) (n c dn pn m : Nat) (nz : Int) (own h : ViewV) (g : Nat → Value) : (execN Try.prog (aCall Try.prog E3l 60) (callN Try.prog E3l 60) 60 k3lb (stOf 81 g [(0, vS f 0 n c), (4, pb 1 0), (5, pb 2 0)] [o, (hB own), (hB h)]) (acc0 [(2, .v (.bool true))])).map (fun y => (look2 3 [] [6] (y.1, y.2.1), y.2.2.q, y.2.2.r, y.2.2.x)) =
    some ((.ret, [], [(6, .bool true)], true), [(some (.bool (decide ((Int.ofNat (kk f n)) > (Int.ofNat 80)))), .bool true)], [], []) := by cases f <;> kernel_rfl
theorem liB_1 (f fm fd fp fl nb : Bool) (o OV DB PB LB : Blk) (n c dn pn m : Nat) (nz : Int) (own h : ViewV) (g : Nat → Value) : (execN Try.prog (aCall Try.prog E3l 60) (callN Try.prog E3l 60) 60 k3lb (stOf 81 g [(0, vS f 0 n c), (4, pb 1 0), (5, pb 2 0)] [o, (hB own), (hB h)]) (acc0 [(2, .v (.bool false))])).map (fun y => (look2 3 [0, 1, 2] [0, 4, 5] (y.1, y.2.1), y.2.2.q, y.2.2.r, y.2.2.x)) =
    some ((.normal, [o, (hB own), (hB h)], [(0, vS f 0 n c), (4, pb 1 0), (5, pb 2 0)], true), [(some (.bool (decide ((Int.ofNat (kk f n)) > (Int.ofNat 80)))), .bool false)], [], []) := by cases f <;> kernel_rfl
theorem liC_0 (f fm fd fp fl nb : Bool) (o OV DB PB LB : Blk) (n c dn pn m : Nat) (nz : Int) (own h : ViewV) (g : Nat → Value) : (execN Try.prog (aCall Try.prog E3l 60) (callN Try.prog E3l 60) 60 k3lc (stOf 81 g [(0, vS f 0 n c), (4, pb 1 0), (5, pb 2 0)] [o, (hB own), (hB h)]) (acc0 [(1, .h (vS fm 4 n 22) [OV, .dead])])).map (fun y => (look2 4 [0, 1, 2, 4] [0, 4, 5, 7] (y.1, y.2.1), y.2.2.q, y.2.2.r, y.2.2.x)) =
    some ((.normal, [o, (hB own), (hB h), OV], [(0, vS f 0 n c), (4, pb 1 0), (5, pb 2 0), (7, vS fm 3 n 22)], true), [], [((padF G34) [vS f 0 n c] (heapOf [o, (hB own), (hB h), .dead] hp0), (vS fm 4 n 22, heapOf [OV, .dead] (heapOf [o, (hB own), (hB h), .dead] hp0)))], []) := by cases f <;> cases fm <;> kernel_rfl
theorem liD_0 (f fm fd fp fl nb : Bool) (o OV DB PB LB : Blk) (n c dn pn m : Nat) (nz : Int) (own h : ViewV) (g : Nat → Value) : (execN Try.prog (aCall Try.prog E3l 60) (callN Try.prog E3l 60) 60 k3ld (stOf 81 g [(0, vS f 0 n c), (4, pb 1 0), (5, pb 2 0), (7, vS fm 3 n 22)] [o, (hB own), (hB h), OV]) (acc0 [(2, .h (.tuple #[.int .i64 nz, .bool nb]) [.dead]), (1, .v (hcA own))])).map (fun y => (look2 4 [0, 1, 2, 3] [0, 4, 5, 7, 8, 9] (y.1, y.2.1), y.2.2.q, y.2.2.r, y.2.2.x)) =
    some ((.normal, [o, (hB own), (hB h), OV], [(0, vS f 0 n c), (4, pb 1 0), (5, pb 2 0), (7, vS fm 3 n 22), (8, .int .i64 nz), (9, .bool nb)], true), [(aLoad Try.prog (heapOf [o, (hB own), (hB h), OV, .dead] hp0).get 24 (pb 1 0), hcA own)], [(G22 [vS fm 3 n 22, hcA own] (heapOf [o, (hB own), (hB h), OV, .dead] hp0), (.tuple #[.int .i64 nz, .bool nb], heapOf [.dead] (heapOf [o, (hB own), (hB h), OV, .dead] hp0)))], []) := by cases f <;> cases fm <;> kernel_rfl
theorem liE_0 (f fm fd fp fl nb : Bool) (o OV DB PB LB : Blk) (n c dn pn m : Nat) (nz : Int) (own h : ViewV) (g : Nat → Value) : (execN Try.prog (aCall Try.prog E3l 60) (callN Try.prog E3l 60) 60 k3le (stOf 81 g [(0, vS f 0 n c), (4, pb 1 0), (5, pb 2 0), (7, vS fm 3 n 22), (8, .int .i64 nz), (9, .bool nb)] [o, (hB own), (hB h), OV]) (acc0 [(2, .h (.tuple #[.int .i64 nz, .bool nb]) [.dead]), (1, .v (hcA own))])).map (fun y => (look2 4 [0, 1, 2, 3] [0, 4, 5, 7, 8, 9, 10, 11] (y.1, y.2.1), y.2.2.q, y.2.2.r, y.2.2.x)) =
    some ((.normal, [o, (hB own), (hB h), OV], [(0, vS f 0 n c), (4, pb 1 0), (5, pb 2 0), (7, vS fm 3 n 22), (8, .int .i64 nz), (9, .bool nb), (10, .int .i64 nz), (11, .bool nb)], true), [(aLoad Try.prog (heapOf [o, (hB own), (hB h), OV, .dead] hp0).get 24 (pb 1 0), hcA own)], [(G11r [vS f 0 n c, hcA own] (heapOf [o, (hB own), (hB h), OV, .dead] hp0), (.tuple #[.int .i64 nz, .bool nb], heapOf [.dead] (heapOf [o, (hB own), (hB h), OV, .dead] hp0)))], []) := by cases f <;> cases fm <;> kernel_rfl
theorem liF_0 (f fm fd fp fl nb : Bool) (o OV DB PB LB : Blk) (n c dn pn m : Nat) (nz : Int) (own h : ViewV) (g : Nat → Value) : (execN Try.prog (aCall Try.prog E3l 60) (callN Try.prog E3l 60) 60 k3lf (stOf 81 g [(0, vS f 0 n c), (4, pb 1 0), (5, pb 2 0), (7, vS fm 3 n 22), (8, .int .i64 nz), (9, .bool nb), (10, .int .i64 nz), (11, .bool nb)] [o, (hB own), (hB h), OV]) (acc0 [(23, .h (.bool true) [.dead]), (22, .h (vI fp 12 pn) [PB, .dead]), (21, .v (hcA own)), (19, .h (vI fp 10 pn) [PB, .dead]), (18, .v (hcA own)), (14, .h (.bool true) [.dead]), (13, .h (vI fd 7 dn) [DB, .dead]), (12, .v (hcA own)), (10, .h (vI fd 5 dn) [DB, .dead]), (9, .v (hcA own)), (6, .v (.bool true)), (4, .v (hcA h)), (3, .v (hcA own)), (1, .v (hcA h)), (0, .v (hcA own))])).map (fun y => (look2 2 [0, 3] [0, 7, 8, 9, 10, 11, 12] (y.1, y.2.1), y.2.2.q, y.2.2.r, y.2.2.x)) =
    some ((.normal, [o, OV], [(0, vS f 0 n c), (7, vS fm 1 n 22), (8, .int .i64 nz), (9, .bool nb), (10, .int .i64 nz), (11, .bool nb), (12, .bool true)], true), [(aLoad Try.prog (heapOf [o, (hB own), (hB h), OV, .dead] hp0).get 24 (pb 1 0), hcA own), (aLoad Try.prog (heapOf [o, (hB own), (hB h), OV, .dead] hp0).get 24 (pb 2 0), hcA h), (aLoad Try.prog (heapOf [o, (hB own), (hB h), OV, .dead, DB, .dead] hp0).get 24 (pb 1 0), hcA own), (aLoad Try.prog (heapOf [o, (hB own), (hB h), OV, .dead, DB, .dead, DB, .dead, .dead, PB, .dead] hp0).get 24 (pb 1 0), hcA own), (aLoad Try.prog (heapOf [o, (hB own), (hB h), OV, .dead, DB, .dead, DB, .dead, .dead, PB, .dead] hp0).get 24 (pb 1 0), hcA own), (aLoad Try.prog (heapOf [o, (hB own), (hB h), OV, .dead, DB, .dead, DB, .dead, .dead] hp0).get 24 (pb 1 0), hcA own), (aLoad Try.prog (heapOf [o, (hB own), (hB h), OV, .dead, DB, .dead] hp0).get 24 (pb 1 0), hcA own), (aLoad Try.prog (heapOf [o, (hB own), (hB h), OV, .dead] hp0).get 24 (pb 1 0), hcA own), (some (.bool ((dirV own h) == (dirV own h))), .bool true), (aLoad Try.prog (heapOf [o, (hB own), (hB h), OV, .dead] hp0).get 24 (pb 2 0), hcA h), (aLoad Try.prog (heapOf [o, (hB own), (hB h), OV, .dead] hp0).get 24 (pb 1 0), hcA own), (aLoad Try.prog (heapOf [o, (hB own), (hB h), OV, .dead] hp0).get 24 (pb 2 0), hcA h), (aLoad Try.prog (heapOf [o, (hB own), (hB h), OV, .dead] hp0).get 24 (pb 1 0), hcA own)], [(gSI [vI fp 10 pn, vI fp 12 pn] (heapOf [o, (hB own), (hB h), OV, .dead, DB, .dead, DB, .dead, .dead, PB, .dead, PB, .dead] hp0), (.bool true, heapOf [.dead] (heapOf [o, (hB own), (hB h), OV, .dead, DB, .dead, DB, .dead, .dead, PB, .dead, PB, .dead] hp0))), (G18r [vS f 0 n c, hcA own] (heapOf [o, (hB own), (hB h), OV, .dead, DB, .dead, DB, .dead, .dead, PB, .dead] hp0), (vI fp 12 pn, heapOf [PB, .dead] (heapOf [o, (hB own), (hB h), OV, .dead, DB, .dead, DB, .dead, .dead, PB, .dead] hp0))), (G20 [vS fm 3 n 22, hcA own] (heapOf [o, (hB own), (hB h), OV, .dead, DB, .dead, DB, .dead, .dead] hp0), (vI fp 10 pn, heapOf [PB, .dead] (heapOf [o, (hB own), (hB h), OV, .dead, DB, .dead, DB, .dead, .dead] hp0))), (gSI [vI fd 5 dn, vI fd 7 dn] (heapOf [o, (hB own), (hB h), OV, .dead, DB, .dead, DB, .dead] hp0), (.bool true, heapOf [.dead] (heapOf [o, (hB own), (hB h), OV, .dead, DB, .dead, DB, .dead] hp0))), (G16r [vS f 0 n c, hcA own] (heapOf [o, (hB own), (hB h), OV, .dead, DB, .dead] hp0), (vI fd 7 dn, heapOf [DB, .dead] (heapOf [o, (hB own), (hB h), OV, .dead, DB, .dead] hp0))), (G19 [vS fm 3 n 22, hcA own] (heapOf [o, (hB own), (hB h), OV, .dead] hp0), (vI fd 5 dn, heapOf [DB, .dead] (heapOf [o, (hB own), (hB h), OV, .dead] hp0)))], []) := by cases f <;> cases fm <;> cases fd <;> cases fp <;> kernel_rfl
theorem liZ_0 (f fm fd fp fl nb : Bool) (o OV DB PB LB : Blk) (n c dn pn m : Nat) (nz : Int) (own h : ViewV) (g : Nat → Value) : (execN Try.prog (aCall Try.prog E3l 60) (callN Try.prog E3l 60) 60 k3lz (stOf 81 g [(0, vS f 0 n c), (7, vS fm 1 n 22), (8, .int .i64 nz), (9, .bool nb), (10, .int .i64 nz), (11, .bool nb), (12, .bool true)] [o, OV]) (acc0 [(24, .h (.bool true) [.dead]), (19, .h (.bool true) [.dead]), (18, .h (vLv fl 5 m) [LB, .dead]), (16, .h (vD fl 3 m) [LB, .dead]), (12, .v (.bool true)), (7, .v (.bool true))])).map (fun y => (look2 0 [] [6] (y.1, y.2.1), y.2.2.q, y.2.2.r, y.2.2.x)) =
    some ((.ret, [], [(6, .bool true)], true), [(some (.bool (nb == nb)), .bool true), (some (.bool (nz == nz)), .bool true)], [(gSM [vS fm 1 n 22, vS f 0 n c] (heapOf [o, OV, .dead, LB, .dead, LB, .dead, .dead] hp0), (.bool true, heapOf [.dead] (heapOf [o, OV, .dead, LB, .dead, LB, .dead, .dead] hp0))), (gSL [vD fl 3 m, vLv fl 5 m] (heapOf [o, OV, .dead, LB, .dead, LB, .dead] hp0), (.bool true, heapOf [.dead] (heapOf [o, OV, .dead, LB, .dead, LB, .dead] hp0))), (G22r [vS f 0 n c] (heapOf [o, OV, .dead, LB, .dead] hp0), (vLv fl 5 m, heapOf [LB, .dead] (heapOf [o, OV, .dead, LB, .dead] hp0))), (GLv [vS fm 1 n 22] (heapOf [o, OV, .dead] hp0), (vD fl 3 m, heapOf [LB, .dead] (heapOf [o, OV, .dead] hp0)))], []) := by cases f <;> cases fm <;> cases fl <;> kernel_rfl
theorem q3l (v : Value) (O : List Blk) (g : Nat → Value) : retVal Try.prog Try.f3 (stOf 81 g [(6, v)] O) = some v := by kernel_rfl
end Go.Proofs.Ytgeoommlmddgpaa.LtL
namespace Go.Proofs.Ytgeoommlmddgpaa.LtL
open Go Go.Proofs Go.Proofs.Ytgeoommlmddgpaa.AI Go.RowKit Go.Proofs.Ytgeoommlmddgpaa.Sort Go.Proofs.Ytgeoommlmddgpaa.LtA

/-! ### Same, of rows of levels -/
theorem lidxg {b c m i : Nat} (h : i < m) : fstV ((aIndexAddr Try.prog 34 (.slice (some ⟨b, 0, none⟩) m c) (iN i)).map fun v => (v, none)) = some (pb b (i * 3)) := by
  have h1 : (0 : Int) ≤ Int.ofNat i ∧ Int.ofNat i < (m : Int) := ⟨Int.natCast_nonneg i, by simpa using h⟩
  simp only [aIndexAddr, iN, Try.underlying34, sizeL]
  rw [if_pos h1]
  simp [fstV, pb]
theorem lloadg {hp : Hp} {b : Nat} {ro : Bool} {us : List Lev} {i : Nat} {x : Lev} (hg : hp.get b = some (.cells 42 (lrow us) ro)) (h : us[i]? = some x) : aLoad Try.prog hp.get 42 (pb b (i * 3)) = some (lA x) := by
  simp only [aLoad, pb, hg, aggL, sizeL]
  have := flat_getR (f := lc) (k := 3) (ps := us) (fun _ _ => rfl) h
  unfold lrow
  rw [this]
  rfl
def EndsA (e : Exit) (st : St) : Prop := e = .ret ∧ ∃ g, st = stOf 26 g [(4, .bool true)] []
theorem frSL (us : List Lev) (hn : us.length < 1000000) (W : Base) :
    FRwp Try.prog 26 W code20s ⟨tmsOf [.slice (some ⟨0, 0, none⟩) us.length 11, .slice (some ⟨1, 0, none⟩) us.length 10] 0 .leaf, heapOf [.cells 42 (lrow us) true, .cells 42 (lrow us) true, .dead] hp0, []⟩ EndsA := by
  have hi : inertB (.cells 42 (lrow us) true) = true := lrow_inert us
  generalize hA : Blk.cells 42 (lrow us) true = A at *
  have fx : ∀ r : List Blk, ∀ i, i < 2 → ∀ o', (A :: A :: r)[i]? = some o' → Fixed 0 o' := fixOO hi hi
  refine FRwp.seq (Q1 := fun e st => e = .normal ∧ ∃ g, st = stOf 26 g [(0, .slice (some ⟨0, 0, none⟩) us.length 11), (1, .slice (some ⟨1, 0, none⟩) us.length 10)] [A, A]) (FRwp.pieceN E20s_ok follows 60 2 _ _ _ _ (saA_0 A A us.length 0 zl (fun _ => nilS)) Met.nil MetH.nil MetE.nil sk20sa rfl rfl (fx _) fun g => ⟨rfl, g, rfl⟩) ?_ (fun x st hne hq => absurd hq.1 hne)
  rintro st ⟨-, g, rfl⟩
  refine FRwp.seq (Q1 := fun e st => e = .normal ∧ ∃ g, st = stOf 26 g [(0, .slice (some ⟨0, 0, none⟩) us.length 11), (1, .slice (some ⟨1, 0, none⟩) us.length 10)] [A, A]) (FRwp.pieceN E20s_ok follows 60 2 _ _ _ _ (saB_0 A A us.length 0 zl g) (Met.cons (bool_ok (by simp)) Met.nil) MetH.nil MetE.nil sk20sb rfl rfl (fx _) fun g => ⟨rfl, g, rfl⟩) ?_ (fun x st hne hq => absurd hq.1 hne)
  rintro st ⟨-, g, rfl⟩
  refine FRwp.seq (Q1 := fun e st => e = .normal ∧ ∃ g, st = stOf 26 g [] []) ?_ ?_ (fun x st hne hq => absurd hq.1 hne)
  rotate_left
  · rintro st ⟨-, g, rfl⟩
    exact FRwp.pieceN E20s_ok follows 60 0 _ _ _ _ (saZ_0 A A 0 0 zl g) Met.nil MetH.nil MetE.nil sk20sz rfl rfl (noFix _) fun g => ⟨rfl, g, rfl⟩
  refine FRwp.seq (Q1 := fun e st => e = .normal ∧ ∃ g, st = stOf 26 g [(0, .slice (some ⟨0, 0, none⟩) us.length 11), (1, .slice (some ⟨1, 0, none⟩) us.length 10), (5, iN 0)] [A, A]) (FRwp.pieceN E20s_ok follows 60 2 _ _ _ _ (saC_0 A A us.length 0 zl g) Met.nil MetH.nil MetE.nil sk20sc rfl rfl (fx _) fun g => ⟨rfl, g, rfl⟩) ?_ (fun x st hne hq => absurd hq.1 hne)
  rintro st ⟨-, g, rfl⟩
  refine fold_loop' (vs := us) (fun _ _ => ()) () (fun _ i g => stOf 26 g [(0, .slice (some ⟨0, 0, none⟩) us.length 11), (1, .slice (some ⟨1, 0, none⟩) us.length 10), (5, iN i)] [A, A]) (fun _ st => ∃ g, st = stOf 26 g [] []) (fun _ g _ => ?_) (fun i z _ g hz hk _ => ?_) g
  · exact FRwp.pieceN E20s_ok follows 60 2 _ _ _ _ (saL_2 A A us.length us.length zl g) (Met.cons (ltT (a := us.length) (b := us.length) (r := false) (by simp)) Met.nil) MetH.nil MetE.nil sk20sL rfl rfl fixN fun g => ⟨rfl, g, rfl⟩
  · have l0 : aLoad Try.prog (heapOf [A, A, .dead] hp0).get 42 (pb 0 (i * 3)) = some (lA z) := lloadg (ro := true) (us := us) (by rw [heapOf0_get, ← hA]; rfl) hz
    have l1 : aLoad Try.prog (heapOf [A, A, .dead] hp0).get 42 (pb 1 (i * 3)) = some (lA z) := lloadg (ro := true) (us := us) (by rw [heapOf0_get, ← hA]; rfl) hz
    have hw : (some (Value.int .i64 (wrapF .i64 (Int.ofNat i + Int.ofNat 1)))) = some (iN (i + 1)) := wrap_up (by omega)
    exact FRwp.pieceN E20s_ok follows 60 2 _ _ _ _ (saL_1 A A us.length i z g) (by metc [hw, l0, l1, lidxg hk, ltT (decide_eq_true hk), (neLev z z).trans (bool_ok (by simp))]) MetH.nil MetE.nil sk20sL rfl rfl (fx _) fun g => ⟨rfl, g, rfl⟩
theorem hkSL : CallGoal Try.prog 20 gSL := scan_goal follows Try.func20 body20s (by kernel_rfl) fun args hp v hp' h hk => by
  unfold gSL at h
  rw [ntmps20s]
  split at h
  case h_2 => cases h
  rename_i s t
  split at h
  case isFalse => cases h
  rename_i hT
  obtain ⟨us, hn, hT⟩ := hT
  cases h
  have fin : ∀ {e : Exit} {st : St}, EndsA e st → (e = .normal ∨ e = .ret) ∧ st.df = [] ∧ ∃ v0, retVal Try.prog Try.f20 st = some v0 ∧ ok3 v0 = true ∧
      (∀ b ∈ ([] : List Nat), ∃ o, st.hp.get b = some o ∧ okBlk o = true ∧ rwB o = true) ∧ .bool true = sh3 [] hp.sz v0 ∧ [] = outOf [] hp.sz st.hp := by
    rintro e st ⟨rfl, g, rfl⟩
    exact ⟨.inr rfl, rfl, _, q20s _ _ g, rfl, (fun b hb => by cases hb), rfl, rfl⟩
  rcases hT with ⟨rfl, rfl⟩ | ⟨b1, b2, rfl, rfl, hne, h1, h2⟩
  · refine ⟨[], [], [], rfl, rfl, rfl, rfl, (fun b hb => by cases hb), rfl, (by simp), fun W => ?_⟩
    have e1 : [nilS, nilS].map (sh3 [] 0) = [nilS, nilS] := by simp [sh3, sh2, sh1, nilS]
    rw [e1]
    exact FRwp.pieceN E20s_ok follows 60 0 _ _ _ _ (saW_0 .dead .dead 0 0 zl (fun _ => nilS)) Met.nil MetH.nil MetE.nil sk20sw rfl rfl (noFix _) fun g => fin ⟨rfl, g, rfl⟩
  · have hbe : Nat.beq b1 b2 = false := by
      cases e : Nat.beq b1 b2 with
      | false => rfl
      | true => exact absurd (Nat.eq_of_beq_eq_true e) hne
    refine ⟨[b1, b2], [], [], rfl, rfl, by simp [nodupB, hbe], rfl, fun b' hb' => ?_, rfl, (by simp), fun W => ?_⟩
    · have : b' = b1 ∨ b' = b2 := by simpa using hb'
      rcases this with rfl | rfl
      · exact ⟨_, h1, inert_start (lB_inert _)⟩
      · exact ⟨_, h2, inert_start (lB_inert _)⟩
    · have e1 : [Value.slice (some ⟨b1, 0, none⟩) us.length 11, .slice (some ⟨b2, 0, none⟩) us.length 10].map (sh3 [b1, b2] 0) = [.slice (some ⟨0, 0, none⟩) us.length 11, .slice (some ⟨1, 0, none⟩) us.length 10] := by simp [sh3, sh2, sh1, rho, idxOf, hbe]
      have e2 : startHp [b1, b2] hp = heapOf [.cells 42 (lrow us) true, .cells 42 (lrow us) true, .dead] hp0 := start2 h1 h2 (lB_inert _) (lB_inert _)
      rw [e1, e2]
      exact FRwp.mono (frSL us hn W) fun e st q => fin q
open Classical in
theorem gSL_of {us : List Lev} {hp : Hp} {b1 b2 : Nat} (hne : b1 ≠ b2) (h1 : hp.get b1 = some (ownL us)) (h2 : hp.get b2 = some (ownL us)) (hn : us.length < 1000000) : gSL [vD (!us.isEmpty) b1 us.length, vLv (!us.isEmpty) b2 us.length] hp = some (.bool true, heapOf [.dead] hp) := by
  have h : SL us (vD (!us.isEmpty) b1 us.length) (vLv (!us.isEmpty) b2 us.length) hp := by
    cases us with
    | nil => exact .inl ⟨rfl, rfl⟩
    | cons i us => exact .inr ⟨b1, b2, rfl, rfl, hne, h1, h2⟩
  unfold gSL
  simp only
  rw [if_pos ⟨us, hn, h⟩]; rfl
/-! ### The law -/
theorem E3l_ok : ExtOk Try.prog E3l := extG_ok (extH_ok (.cons hk16 (.cons hk14 (.cons hkDir .nil)))) (.cons (pad_goal hkG34) (.cons hkG22 (.cons hkG11r (.cons hkG19 (.cons hkG16r (.cons hkG20 (.cons hkG18r (.cons hkSI (.cons hkLv (.cons hkG22r (.cons hkSL (.cons hkSM .nil))))))))))))
def EndsI (e : Exit) (st : St) : Prop := e = .ret ∧ ∃ g, st = stOf 81 g [(6, .bool true)] []
theorem hbl {hp : Hp} {b : Nat} {y : ViewV} (h : hp.get b = some (hB y)) : aLoad Try.prog hp.get 24 (pb b 0) = some (hcA y) := by
  simp only [aLoad, pb, h, hB, agg23, size23]
  rfl
theorem lawI_fr (f : Bool) (o : Blk) (own h : ViewV) (vs : List ViewV) (c : Nat) (ho : inertB o = true) (hrow : vs = [] ∨ ∃ ty ro, o = .cells ty (vrow vs) ro) (hfl : f = false → vs = [] ∧ o = .dead) (W : Base) :
    FRwp Try.prog 81 W code3l ⟨tmsOf [vS f 0 vs.length c, hcA own, hcA h] 0 .leaf, heapOf [o, .dead] hp0, []⟩ EndsI := by
  have hkk := kk_len hfl
  refine FRwp.seq (Q1 := fun e st => e = .normal ∧ ∃ g, st = stOf 81 g [(0, vS f 0 vs.length c), (4, pb 1 0), (5, pb 2 0)] [o, hB own, hB h]) (FRwp.pieceN E3l_ok follows 60 1 _ _ _ _ (liA_0 f false false false false false o .dead .dead .dead .dead vs.length c 0 0 0 0 own h (fun _ => nilS)) Met.nil MetH.nil MetE.nil sk3la rfl rfl (fix11 ho _) fun g => ⟨rfl, g, rfl⟩) ?_ (fun x st hne hq => absurd hq.1 hne)
  rintro st ⟨-, g, rfl⟩
  have fx3 : ∀ r : List Blk, ∀ i, i < 3 → ∀ o', (o :: hB own :: hB h :: r)[i]? = some o' → Fixed 0 o' := fixQ3 ho (hB_inert own) (hB_inert h)
  have fx4 : ∀ r : List Blk, ∀ i, i < 4 → ∀ o', (o :: hB own :: hB h :: LtA.ownB vs :: r)[i]? = some o' → Fixed 0 o' := fixQ4 ho (hB_inert own) (hB_inert h) (LtA.ownB_inert vs)
  let Q3 : Exit → St → Prop := fun e st => (e = .normal ∧ vs.length ≤ 80 ∧ ∃ g, st = stOf 81 g [(0, vS f 0 vs.length c), (4, pb 1 0), (5, pb 2 0)] [o, hB own, hB h]) ∨ EndsI e st
  refine FRwp.seq (Q1 := Q3) ?_ ?_ ?_
  · cases h15 : decide (80 < vs.length) with
    | true => exact FRwp.pieceN E3l_ok follows 60 3 _ _ _ _ (liB_0 f false false false false false o .dead .dead .dead .dead vs.length c 0 0 0 0 own h g) (Met.cons (gtT (a := kk f vs.length) (b := 80) (by rw [hkk]; exact h15)) Met.nil) MetH.nil MetE.nil sk3lb rfl rfl fixN fun g => .inr ⟨rfl, g, rfl⟩
    | false => exact FRwp.pieceN E3l_ok follows 60 3 _ _ _ _ (liB_1 f false false false false false o .dead .dead .dead .dead vs.length c 0 0 0 0 own h g) (Met.cons (gtT (a := kk f vs.length) (b := 80) (by rw [hkk]; exact h15)) Met.nil) MetH.nil MetE.nil sk3lb rfl rfl (fx3 _) fun g => .inl ⟨rfl, by simpa using h15, g, rfl⟩
  rotate_left
  · rintro e st hne (⟨h, -⟩ | h)
    · exact absurd h hne
    · exact h
  rintro st (⟨-, hle, g, rfl⟩ | ⟨h, -⟩)
  rotate_left
  · cases h
  have hn : vs.length < 1000000 := by omega
  have T0 : ∀ r : List Blk, TN vs (vS f 0 vs.length c) (heapOf (o :: r) hp0) := fun r => tn_vS ho hrow hfl (by rw [heapOf0_get]; rfl)
  have ld1 : ∀ r : List Blk, aLoad Try.prog (heapOf (o :: hB own :: r) hp0).get 24 (pb 1 0) = some (hcA own) := fun r => hbl (by rw [heapOf0_get]; rfl)
  have ld2 : ∀ (a : Blk) (r : List Blk), aLoad Try.prog (heapOf (o :: a :: hB h :: r) hp0).get 24 (pb 2 0) = some (hcA h) := fun a r => hbl (by rw [heapOf0_get]; rfl)
  have TM : ∀ r : List Blk, TN vs (vS (!vs.isEmpty) 3 vs.length 22) (heapOf (o :: hB own :: hB h :: LtA.ownB vs :: r) hp0) := fun r => by rw [← rowV_vS]; exact rowV_tn (by rw [heapOf0_get]; rfl)
  refine FRwp.seq (Q1 := fun e st => e = .normal ∧ ∃ g, st = stOf 81 g [(0, vS f 0 vs.length c), (4, pb 1 0), (5, pb 2 0), (7, vS (!vs.isEmpty) 3 vs.length 22)] [o, hB own, hB h, LtA.ownB vs]) (FRwp.pieceN E3l_ok follows 60 4 _ _ _ _ (liC_0 f (!vs.isEmpty) false false false false o (LtA.ownB vs) .dead .dead .dead vs.length c 0 0 0 0 own h g) Met.nil (MetH.cons ((pad_row (G34_of (T0 _) hn)).trans (by rw [rowV_vS]; rfl)) MetH.nil) MetE.nil sk3lc rfl rfl (fx4 _) fun g => ⟨rfl, g, rfl⟩) ?_ (fun x st hne hq => absurd hq.1 hne)
  rintro st ⟨-, g, rfl⟩
  obtain ⟨nz, nb, hnx⟩ : ∃ nz nb, nxtA own vs = .tuple #[.int .i64 nz, .bool nb] := by
    unfold nxtA
    split
    · exact ⟨_, _, rfl⟩
    · exact ⟨_, _, rfl⟩
  have hnv : ∀ sz, sh3 [] sz (nxtA own vs) = nxtA own vs := fun sz => by rw [hnx]; simp [sh3, sh2, sh1]
  have nx1 : ∀ {s : Value} {hp : Hp}, TN vs s hp → G22 [s, hcA own] hp = some (.tuple #[.int .i64 nz, .bool nb], heapOf [.dead] hp) := fun {s hp} ht => by rw [← hnx]; exact toldR_none (A := nxtR) ht hn rfl (hnv _)
  have nx2 : ∀ {s : Value} {hp : Hp}, TN vs s hp → G11r [s, hcA own] hp = some (.tuple #[.int .i64 nz, .bool nb], heapOf [.dead] hp) := fun {s hp} ht => by rw [← hnx]; exact toldR_none (A := nxtR) ht hn rfl (hnv _)
  refine FRwp.seq (Q1 := fun e st => e = .normal ∧ ∃ g, st = stOf 81 g [(0, vS f 0 vs.length c), (4, pb 1 0), (5, pb 2 0), (7, vS (!vs.isEmpty) 3 vs.length 22), (8, .int .i64 nz), (9, .bool nb)] [o, hB own, hB h, LtA.ownB vs]) (FRwp.pieceN E3l_ok follows 60 4 _ _ _ _ (liD_0 f (!vs.isEmpty) false false false nb o (LtA.ownB vs) .dead .dead .dead vs.length c 0 0 0 nz own h g) (Met.cons (ld1 _) Met.nil) (MetH.cons (nx1 (TM _)) MetH.nil) MetE.nil sk3ld rfl rfl (fx4 _) fun g => ⟨rfl, g, rfl⟩) ?_ (fun x st hne hq => absurd hq.1 hne)
  rintro st ⟨-, g, rfl⟩
  refine FRwp.seq (Q1 := fun e st => e = .normal ∧ ∃ g, st = stOf 81 g [(0, vS f 0 vs.length c), (4, pb 1 0), (5, pb 2 0), (7, vS (!vs.isEmpty) 3 vs.length 22), (8, .int .i64 nz), (9, .bool nb), (10, .int .i64 nz), (11, .bool nb)] [o, hB own, hB h, LtA.ownB vs]) (FRwp.pieceN E3l_ok follows 60 4 _ _ _ _ (liE_0 f (!vs.isEmpty) false false false nb o (LtA.ownB vs) .dead .dead .dead vs.length c 0 0 0 nz own h g) (Met.cons (ld1 _) Met.nil) (MetH.cons (nx2 (T0 _)) MetH.nil) MetE.nil sk3le rfl rfl (fx4 _) fun g => ⟨rfl, g, rfl⟩) ?_ (fun x st hne hq => absurd hq.1 hne)
  rintro st ⟨-, g, rfl⟩
  have d1 : ∀ {s : Value} {hp : Hp}, TN vs s hp → G19 [s, hcA own] hp = some (rowIv (idsD 1 own vs) hp.sz, heapOf [ownI (idsD 1 own vs), .dead] hp) := fun ht => toldR_ids (A := wayR19) ht hn rfl
  have d2 : ∀ {s : Value} {hp : Hp}, TN vs s hp → G16r [s, hcA own] hp = some (rowIv (idsD 1 own vs) hp.sz, heapOf [ownI (idsD 1 own vs), .dead] hp) := fun ht => toldR_ids (A := wayR19) ht hn rfl
  have u1 : ∀ {s : Value} {hp : Hp}, TN vs s hp → G20 [s, hcA own] hp = some (rowIv (idsD 2 own vs) hp.sz, heapOf [ownI (idsD 2 own vs), .dead] hp) := fun ht => toldR_ids (A := wayR20) ht hn rfl
  have u2 : ∀ {s : Value} {hp : Hp}, TN vs s hp → G18r [s, hcA own] hp = some (rowIv (idsD 2 own vs) hp.sz, heapOf [ownI (idsD 2 own vs), .dead] hp) := fun ht => toldR_ids (A := wayR20) ht hn rfl
  have hld : (idsD 1 own vs).length < 1000000 := by rw [idsD_len]; exact Nat.lt_of_le_of_lt (List.length_filter_le _ _) hn
  have hlu : (idsD 2 own vs).length < 1000000 := by rw [idsD_len]; exact Nat.lt_of_le_of_lt (List.length_filter_le _ _) hn
  generalize idsD 1 own vs = ds at *
  generalize idsD 2 own vs = us at *
  simp only [← vI_row] at d1 d2 u1 u2
  refine FRwp.seq (Q1 := fun e st => e = .normal ∧ ∃ g, st = stOf 81 g [(0, vS f 0 vs.length c), (7, vS (!vs.isEmpty) 1 vs.length 22), (8, .int .i64 nz), (9, .bool nb), (10, .int .i64 nz), (11, .bool nb), (12, .bool true)] [o, LtA.ownB vs]) (FRwp.pieceN E3l_ok follows 60 2 _ _ _ _ (liF_0 f (!vs.isEmpty) (!ds.isEmpty) (!us.isEmpty) false nb o (LtA.ownB vs) (ownI ds) (ownI us) .dead vs.length c ds.length us.length 0 nz own h g)
    (by metc [ld1 _, ld2 _ _, bool_ok (by simp)])
    (MetH.cons (by rw [vI_row, vI_row]; exact gSI_of (by omega) (by rw [heapOf0_get]; rfl) (by rw [heapOf0_get]; rfl) hlu) (MetH.cons (u2 (T0 _)) (MetH.cons (u1 (TM _)) (MetH.cons (by rw [vI_row, vI_row]; exact gSI_of (by omega) (by rw [heapOf0_get]; rfl) (by rw [heapOf0_get]; rfl) hld) (MetH.cons (d2 (T0 _)) (MetH.cons (d1 (TM _)) MetH.nil)))))) MetE.nil sk3lf rfl rfl (fixOO ho (LtA.ownB_inert vs) _) fun g => ⟨rfl, g, rfl⟩) ?_ (fun x st hne hq => absurd hq.1 hne)
  rintro st ⟨-, g, rfl⟩
  have TM1 : ∀ r : List Blk, TN vs (vS (!vs.isEmpty) 1 vs.length 22) (heapOf (o :: LtA.ownB vs :: r) hp0) := fun r => by rw [← rowV_vS]; exact rowV_tn (by rw [heapOf0_get]; rfl)
  have hm : (dlev (levsV vs)).length < 1000000 := Nat.lt_of_le_of_lt (Nat.le_trans (ded_len2 _) (levsV_len _)) hn
  have l1 : ∀ {s : Value} {hp : Hp}, TN vs s hp → GLv [s] hp = some (vD (!(dlev (levsV vs)).isEmpty) hp.sz (dlev (levsV vs)).length, heapOf [ownL (dlev (levsV vs)), .dead] hp) := fun ht => by rw [← rowLv_vD]; exact GLv_of ht hn
  have l2 : ∀ {s : Value} {hp : Hp}, TN vs s hp → G22r [s] hp = some (vLv (!(dlev (levsV vs)).isEmpty) hp.sz (dlev (levsV vs)).length, heapOf [ownL (dlev (levsV vs)), .dead] hp) := fun ht => by rw [← rowLr_v]; exact G22r_of ht hn
  generalize dlev (levsV vs) = ls at *
  have hS : ∀ r : List Blk, gSM [vS (!vs.isEmpty) 1 vs.length 22, vS f 0 vs.length c] (heapOf (o :: LtA.ownB vs :: r) hp0) = some (.bool true, heapOf [.dead] (heapOf (o :: LtA.ownB vs :: r) hp0)) := fun r => by
    rw [← rowV_vS]
    refine gSM_of (SM_new (by rw [heapOf0_get]; rfl) (T0 _) fun b' n' c' e => ?_) hn
    cases f with
    | true => have e2 : rowS 0 vs.length c = rowS b' n' c' := e; unfold rowS at e2; cases e2; omega
    | false => have e2 : nilS = rowS b' n' c' := e; unfold rowS nilS at e2; cases e2
  exact FRwp.pieceN E3l_ok follows 60 0 _ _ _ _ (liZ_0 f (!vs.isEmpty) false false (!ls.isEmpty) nb o (LtA.ownB vs) .dead .dead (ownL ls) vs.length c 0 0 ls.length nz own h g)
    (by metc [bool_ok (by simp)])
    (MetH.cons (hS _) (MetH.cons (gSL_of (by omega) (by rw [heapOf0_get]; rfl) (by rw [heapOf0_get]; rfl) hm) (MetH.cons (l2 (T0 _)) (MetH.cons (l1 (TM1 _)) MetH.nil)))) MetE.nil sk3lz rfl rfl (noFix _) fun g => ⟨rfl, g, rfl⟩
end Go.Proofs.Ytgeoommlmddgpaa.LtL
namespace Go.Proofs.Ytgeoommlmddgpaa.LtL
open Go Go.Proofs Go.Proofs.Ytgeoommlmddgpaa.AI Go.RowKit Go.ChangeShapes Go.Proofs.Ytgeoommlmddgpaa.LtA

theorem laidI : laidOutB Try.prog = true := by kernel_rfl
theorem ownI' : ownKnob Try.prog.godebug = none := by kernel_rfl
theorem endsI {e : Exit} {st : St} (h : EndsI e st) : (e = .normal ∨ e = .ret) ∧ st.df = [] ∧ retVal Try.prog Try.f3 st = some (.bool true) := by
  obtain ⟨rfl, g, rfl⟩ := h
  exact ⟨.inr rfl, rfl, q3l _ _ _⟩
theorem walkI {H : Type} {enc : TypeId × Value → H} (W : World) (base : Nat) (args : Array Value) (ds : List (DataW H)) (p : List MemPlace) (hsz : args.size = 3) (hval : ∀ (j : Nat) t v, Try.f3.params[j]? = some t → args[j]? = some v → Value.okWide Try.prog W .any base t v)
    (hA : DataW.TrodAll enc Try.prog W 0 (fun _ => true) true [22, 24, 24] args.toList ds p) : Calls Try.prog 3 args W fun e W' => e = .returned (.bool true) ∧ Below W.heap.size W W' := by
  obtain ⟨vl, vo, vh, rfl⟩ : ∃ vl vo vh, args = #[vl, vo, vh] := by
    obtain ⟨l⟩ := args
    match l, hsz with
    | [a, b, c], _ => exact ⟨a, b, c, rfl⟩
  obtain ⟨own, ho, rfl⟩ := open_height' 0 (hval 1 24 vo (by kernel_rfl) rfl)
  obtain ⟨y, hy, rfl⟩ := open_height' 0 (hval 2 24 vh (by kernel_rfl) rfl)
  obtain ⟨v1, vs1, d1, ds1, p1, q1, e1, _, _, hT, _⟩ := trodAll_cons hA
  cases e1
  obtain ⟨f, o, vs, m, hi, sim, ro, rv, hmax, hrow, hfl⟩ := row_argF (hval 0 22 vl (by kernel_rfl) rfl) hT
  refine law_end Try.func3 body3l ntmps3l W (args0 := [vS f 0 vs.length 2, hcA own, hcA y]) (by simp) (heapOf_ok _ _ hp0_ok) sim ro (.cons rv (.cons (VRel.plain rfl) (.cons (VRel.plain rfl) .nil))) fun W => ?_
  exact FRwp.mono (lawI_fr f o own y vs 2 hi hrow hfl W) fun e st h => endsI h
theorem params3 : ∀ t ∈ Try.f3.params.toList, Try.prog.readableRec t = true ∧ t < Try.prog.types.size := by
  have h : Try.f3.params.toList.all (fun t => Try.prog.readableRec t && decide (t < Try.prog.types.size)) = true := by kernel_rfl
  intro t ht
  have := List.all_eq_true.1 h t ht
  simpa using this
theorem lifted3 (os : Os) (started : os.Started) (H : Type) (enc : TypeId × Value → H) :
    ReturnsInHanded {} Try.checked os 3 .any (Rows.linksLieSpec.pre6 enc Try.prog Try.f3 Rows.linksLieRow.domain false) (Rows.linksLieSpec.post enc Try.prog Try.f3 false true false false) :=
  law_lifted (C := Try.checked) (tb := 4) started ownI' (by kernel_rfl) Try.func3 laidI params3 rfl (by kernel_rfl) Try.underlying4
    (fun ds hl => by
      match ds, hl with
      | [_, _, _], _ => rfl)
    (ChangeSpec.witness6 (enc := enc) (C := Try.checked) false ⟨#[], #[nilS, hcA (zeroV 0), hcA (zeroV 0)], []⟩ 8 (by kernel_rfl) (by kernel_rfl) (by kernel_rfl) (by kernel_rfl))
    (fun W base args ds p hsz hval hA => walkI W base args ds p hsz hval hA)

/-- The statement. -/
theorem linksLie_proved : Rows.LinksLieSaid :=
  OpenClaim.holds_of_wide 3 Try.f3 rfl rfl rfl rfl rfl rfl rfl ⟨rfl, rfl, rfl, rfl, rfl⟩ rfl rfl rfl rfl rfl (by kernel_rfl) Try.func3 (by kernel_rfl)
    (of_decide_eq_true (by kernel_rfl)) (by unfold Func.isWrapper; first | (rw [if_pos (by decide +kernel)]; kernel_rfl) | (rw [if_neg (by decide +kernel)]; exact ⟨rfl, rfl⟩))
    (fun os started H enc _ => lifted3 os started H enc)
#print axioms linksLie_proved
end Go.Proofs.Ytgeoommlmddgpaa.LtL
