/- ViewsForget, of the given program: its runs (thalweglaw12.awake is told). -/
import Derived.Test.YtiogdklmhpllfaaVfB
import Derived.Test.YtiogdklmhpllfaaAi39
set_option linter.unusedVariables false
set_option linter.unusedSimpArgs false
set_option maxRecDepth 100000
namespace Go.Proofs.Ytiogdklmhpllfaa.LtA
open Go Go.Proofs Go.Proofs.Ytiogdklmhpllfaa.AI Go.RowKit

def orFn (g k : HeapFn) : HeapFn := fun args hp => match g args hp with
  | some r => some r
  | none => k args hp
theorem orFn_goal {P : Program} {f : FuncId} {g k : HeapFn} (h1 : CallGoal P f g) (h2 : CallGoal P f k) : CallGoal P f (orFn g k) := by
  intro args hp v hp' he hk
  unfold orFn at he
  split at he
  · rename_i h; cases he; exact h1 _ _ _ _ h hk
  · exact h2 _ _ _ _ he hk
def gAwake12 : List Value → Option Value
  | [] => some (.bool true)
  | _ => none
noncomputable def E7 (vs ms : List ViewV) : Ext := extG (extH Try.prog [(26, gAwake12), (32, g32), (31, g31), (30, g30)]) [(18, orFn (g18 vs) (g18 ms)), (29, orFn (g29 vs) (g29 ms)), (28, g28 ms ms)]
noncomputable def c7 (vs ms : List ViewV) : CallF := aCall Try.prog (E7 vs ms) 5
def p2 : Value := .pointer (some ⟨2, 0, none⟩)
section
variable (o : Blk) (vs ms : List ViewV) (n c : Nat) (lt lo lr keep : Int)
abbrev B6 : St := ⟨tmsOf [rowS 0 n c, levA lt lo lr, .int .i64 keep] 0 .leaf, heapOf [o, .dead] hp0, []⟩
end
end Go.Proofs.Ytiogdklmhpllfaa.LtA
namespace Go.Proofs.Ytiogdklmhpllfaa.LtA
open Go Go.Proofs Go.Proofs.Ytiogdklmhpllfaa.AI Go.RowKit

noncomputable def fb63 : Code := (Try.f63.body).getD .skip
theorem body63 : Try.f63.body = some fb63 := by kernel_rfl
theorem s63 : codeSafe Try.prog 95 fb63 = true := by kernel_rfl
theorem ntmps63 : Try.f63.ntmps = 95 := by kernel_rfl
/-- A part of a row. -/
def slS (b off n c : Nat) : Value := .slice (some ⟨b, off, none⟩) n c
/-- What is said of the capacity of a part that ends at h. -/
def cc (c len h : Nat) : Nat := if flagOf c = 1 ∧ wide c = 7 then c else if flagOf c = 0 then 3 * (wide c % 1000000 + 1000000 * (len + spareOf c - h)) else 3 * 7 + 2
section
variable (call : CallF) (L X : List Value) (t2 : TypeId) (n c c2 i x : Nat)
def B63 (L : List Value) (X : List Value) (t2 : TypeId) (n c c2 i : Nat) : St := ⟨tmsOf [slS 0 0 n c, iN i, rowS 1 1 c2] 0 .leaf, heapOf [.cells 34 L false, .cells t2 X false, .dead] hp0, []⟩
def hI (L : List Value) (X : List Value) (t2 : TypeId) : Hp := heapOf [.cells 34 L false, .cells t2 X false, .dead] hp0
/-- At the end. -/
theorem rI1 : (execE Try.prog call [(12, slS 0 (i * 7) (n - i) (cc c n n)), (22, .bool true)] [] [(25, newS 3 (n + 1), [.put 0 .dead, .push (.cells 34 (L ++ X) false)])] 60 fb63 (B63 L X t2 n c c2 i)).map (fun y => (look2 1 [3] [6] (y.1, y.2.1), y.2.2)) =
    some ((.ret, [.cells 34 (L ++ X) false], [(6, newS 0 (n + 1))], true),
      [(fstV ((aSlice Try.prog 29 (slS 0 0 n c) (some (iN i)) none none).map fun v => (v, none)), slS 0 (i * 7) (n - i) (cc c n n)), (some (.bool (Int.ofNat i == Int.ofNat n)), .bool true)], [],
      [(aAppend Try.prog (hI L X t2).get 3 [29, 29] [slS 0 0 n c, rowS 1 1 c2], (newS 3 (n + 1), [.put 0 .dead, .push (.cells 34 (L ++ X) false)]))]) := by kernel_rfl
/-- There is no room. -/
theorem rI2 (La Lb Z Z' : List Value) : (execE Try.prog call [(12, slS 0 (i * 7) (n - i) (cc c n n)), (22, .bool false), (28, iN (n + 1)), (30, iN n), (31, .bool true), (34, slS 0 0 i (cc c n i)), (37, iN (n + 1)), (39, iN (n + 1 - i)), (43, slS 3 (i * 7) (n + 1 - i) 22), (49, iN (i + 1)), (50, slS 3 ((i + 1) * 7) (n - i) 22), (53, slS 0 (i * 7) (n - i) (cc c n n))] []
      [(40, newS 3 (n + 1), [.push (.cells 34 (La ++ Z) false)]), (45, iN 1, [.put 3 (.cells 34 (La ++ X ++ Z') false)]), (54, iN (n - i), [.put 3 (.cells 34 (La ++ X ++ Lb) false)])] 60 fb63 (B63 L X t2 n c c2 i)).map (fun y => (look2 1 [3] [6] (y.1, y.2.1), y.2.2)) =
    some ((.ret, [.cells 34 (La ++ X ++ Lb) false], [(6, newS 0 (n + 1))], true),
      [(fstV ((aSlice Try.prog 29 (slS 0 0 n c) (some (iN i)) none none).map fun v => (v, none)), slS 0 (i * 7) (n - i) (cc c n n)),
       (some (.bool (Int.ofNat i == Int.ofNat n)), .bool false), (some (.int .i64 (wrapF .i64 (Int.ofNat n + 1))), iN (n + 1)),
       (fstV ((aCap Try.prog 29 (slS 0 0 n c)).map fun v => (v, none)), iN n), (some (.bool (decide (Int.ofNat (n + 1) > Int.ofNat n))), .bool true),
       (fstV ((aSlice Try.prog 29 (slS 0 0 n c) none (some (iN i)) none).map fun v => (v, none)), slS 0 0 i (cc c n i)),
       (some (.int .i64 (wrapF .i64 (Int.ofNat n + 1))), iN (n + 1)), (some (.int .i64 (wrapF .i64 (Int.ofNat (n + 1) - Int.ofNat i))), iN (n + 1 - i)),
       (fstV ((aSlice Try.prog 29 (newS 3 (n + 1)) (some (iN i)) none none).map fun v => (v, none)), slS 3 (i * 7) (n + 1 - i) 22),
       (some (.int .i64 (wrapF .i64 (Int.ofNat i + 1))), iN (i + 1)),
       (fstV ((aSlice Try.prog 29 (newS 3 (n + 1)) (some (iN (i + 1))) none none).map fun v => (v, none)), slS 3 ((i + 1) * 7) (n - i) 22),
       (fstV ((aSlice Try.prog 29 (slS 0 0 n c) (some (iN i)) none none).map fun v => (v, none)), slS 0 (i * 7) (n - i) (cc c n n))], [],
      [(aAppend Try.prog (hI L X t2).get 3 [29, 3] [slS 0 0 i (cc c n i), iN (n + 1 - i)], (newS 3 (n + 1), [.push (.cells 34 (La ++ Z) false)])),
       (aCopy Try.prog ((hI L X t2).push (.cells 34 (La ++ Z) false)).get [29, 29] [slS 3 (i * 7) (n + 1 - i) 22, rowS 1 1 c2], (iN 1, [.put 3 (.cells 34 (La ++ X ++ Z') false)])),
       (aCopy Try.prog (((hI L X t2).push (.cells 34 (La ++ Z) false)).put 3 (.cells 34 (La ++ X ++ Z') false)).get [29, 29] [slS 3 ((i + 1) * 7) (n - i) 22, slS 0 (i * 7) (n - i) (cc c n n)], (iN (n - i), [.put 3 (.cells 34 (La ++ X ++ Lb) false)]))]) := by kernel_rfl
/-- There is room. -/
theorem rI3 (M1 M2 : List Value) (c1 : Nat) : (execE Try.prog call [(12, slS 0 (i * 7) (n - i) (cc c n n)), (22, .bool false), (28, iN (n + 1)), (30, iN (n + x)), (31, .bool false), (59, iN (n + 1)), (60, slS 0 0 (n + 1) c1), (65, iN (i + 1)), (66, slS 0 ((i + 1) * 7) (n - i) (cc c1 (n + 1) (n + 1))), (72, iN (i + 1)), (73, slS 0 ((i + 1) * 7) (n - i) (cc c1 (n + 1) (n + 1))),
      (76, slS 0 (i * 7) (n + 1 - i) (cc c1 (n + 1) (n + 1))), (80, slS 0 (i * 7) (n + 1 - i) (cc c1 (n + 1) (n + 1)))] [(67, .bool false, [])]
      [(77, iN (n - i), [.put 0 (.cells 34 M1 false)]), (82, iN 1, [.put 0 (.cells 34 M2 false)])] 60 fb63 (B63 L X t2 n c c2 i)).map (fun y => (look2 1 [0] [6] (y.1, y.2.1), y.2.2)) =
    some ((.ret, [.cells 34 M2 false], [(6, slS 0 0 (n + 1) c1)], true),
      [(fstV ((aSlice Try.prog 29 (slS 0 0 n c) (some (iN i)) none none).map fun v => (v, none)), slS 0 (i * 7) (n - i) (cc c n n)),
       (some (.bool (Int.ofNat i == Int.ofNat n)), .bool false), (some (.int .i64 (wrapF .i64 (Int.ofNat n + 1))), iN (n + 1)),
       (fstV ((aCap Try.prog 29 (slS 0 0 n c)).map fun v => (v, none)), iN (n + x)), (some (.bool (decide (Int.ofNat (n + 1) > Int.ofNat (n + x)))), .bool false),
       (some (.int .i64 (wrapF .i64 (Int.ofNat n + 1))), iN (n + 1)),
       (fstV ((aSlice Try.prog 29 (slS 0 0 n c) none (some (iN (n + 1))) none).map fun v => (v, none)), slS 0 0 (n + 1) c1),
       (some (.int .i64 (wrapF .i64 (Int.ofNat i + 1))), iN (i + 1)),
       (fstV ((aSlice Try.prog 29 (slS 0 0 (n + 1) c1) (some (iN (i + 1))) none none).map fun v => (v, none)), slS 0 ((i + 1) * 7) (n - i) (cc c1 (n + 1) (n + 1))),
       (some (.int .i64 (wrapF .i64 (Int.ofNat i + 1))), iN (i + 1)),
       (fstV ((aSlice Try.prog 29 (slS 0 0 (n + 1) c1) (some (iN (i + 1))) none none).map fun v => (v, none)), slS 0 ((i + 1) * 7) (n - i) (cc c1 (n + 1) (n + 1))),
       (fstV ((aSlice Try.prog 29 (slS 0 0 (n + 1) c1) (some (iN i)) none none).map fun v => (v, none)), slS 0 (i * 7) (n + 1 - i) (cc c1 (n + 1) (n + 1))),
       (fstV ((aSlice Try.prog 29 (slS 0 0 (n + 1) c1) (some (iN i)) none none).map fun v => (v, none)), slS 0 (i * 7) (n + 1 - i) (cc c1 (n + 1) (n + 1)))],
      [(call 82 [rowS 1 1 c2, slS 0 ((i + 1) * 7) (n - i) (cc c1 (n + 1) (n + 1))] (hI L X t2), (.bool false, hI L X t2))],
      [(aCopy Try.prog (hI L X t2).get [29, 29] [slS 0 ((i + 1) * 7) (n - i) (cc c1 (n + 1) (n + 1)), slS 0 (i * 7) (n + 1 - i) (cc c1 (n + 1) (n + 1))], (iN (n - i), [.put 0 (.cells 34 M1 false)])),
       (aCopy Try.prog ((hI L X t2).put 0 (.cells 34 M1 false)).get [29, 29] [slS 0 (i * 7) (n + 1 - i) (cc c1 (n + 1) (n + 1)), rowS 1 1 c2], (iN 1, [.put 0 (.cells 34 M2 false)]))]) := by kernel_rfl
end
end Go.Proofs.Ytiogdklmhpllfaa.LtA
namespace Go.Proofs.Ytiogdklmhpllfaa.LtA
open Go Go.Proofs Go.Proofs.Ytiogdklmhpllfaa.AI Go.RowKit

theorem putL_mid {A B C D : List Value} {k : Nat} (hk : A.length = k) (hl : D.length = B.length) : putL (A ++ B ++ C) k D = A ++ D ++ C := by
  apply List.ext_getElem?
  intro j
  rw [putL_get]
  by_cases h1 : j < k
  · rw [if_neg (by omega), List.append_assoc, List.append_assoc, List.getElem?_append_left (by omega), List.getElem?_append_left (by omega)]
  · by_cases h2 : j < k + D.length
    · rw [if_pos ⟨by omega, h2, by simp; omega⟩, List.append_assoc A D C, List.getElem?_append_right (by omega), List.getElem?_append_left (by omega), hk]
    · rw [if_neg (by omega), List.getElem?_append_right (by simp; omega), List.getElem?_append_right (by simp; omega)]
      congr 1; simp; omega
theorem slice_lo {b off n c l : Nat} (h : l ≤ n) : fstV ((aSlice Try.prog 29 (slS b off n c) (some (iN l)) none none).map fun v => (v, none)) = some (slS b (off + l * 7) (n - l) (cc c n n)) := by
  have h1 : (0 : Int) ≤ Int.ofNat l ∧ Int.ofNat l ≤ (n : Int) := ⟨Int.natCast_nonneg l, by simpa using h⟩
  simp only [aSlice, slS, iN, Try.underlying29, size34, bound]
  rw [if_pos h1]
  simp [fstV, cc]
theorem slice_lo0 {b n c l : Nat} (h : l ≤ n) : fstV ((aSlice Try.prog 29 (slS b 0 n c) (some (iN l)) none none).map fun v => (v, none)) = some (slS b (l * 7) (n - l) (cc c n n)) := by
  rw [slice_lo h, Nat.zero_add]
theorem cc22 (n h : Nat) : cc 22 n h = 22 := by unfold cc; rw [if_pos (by decide)]
theorem slice_hi {b n c l : Nat} (h : l ≤ n + spareOf c) : fstV ((aSlice Try.prog 29 (slS b 0 n c) none (some (iN l)) none).map fun v => (v, none)) = some (slS b 0 l (cc c n l)) := by
  have h1 : (0 : Int) ≤ Int.ofNat l ∧ Int.ofNat l ≤ ((n + spareOf c : Nat) : Int) := ⟨Int.natCast_nonneg l, Int.ofNat_le.2 h⟩
  simp only [aSlice, slS, iN, Try.underlying29, size34, bound]
  rw [if_pos h1]
  simp [fstV, cc]
theorem cap_ok {b n c x : Nat} (h0 : c % 3 = 0) (hx : c / 3 / 1000000 = x) : fstV ((aCap Try.prog 29 (slS b 0 n c)).map fun v => (v, none)) = some (iN (n + x)) := by
  simp only [aCap, slS, Try.underlying29, h0]
  have e : (↑n + ↑c / 3 / 1000000 : Int) = Int.ofNat (n + x) := by
    rw [← hx]
    simp only [Int.ofNat_eq_natCast, Int.natCast_add, Int.natCast_ediv]
    rfl
  show some (Value.int .i64 (↑n + ↑c / 3 / 1000000)) = _
  rw [e]
  rfl
theorem zero34' : ∃ z, tzero Try.prog 34 = some z ∧ z.length = 7 ∧ z.all isOne = true := by
  have h : (tzero Try.prog 34).map (fun z => (z.length, z.all isOne)) = some (7, true) := by kernel_rfl
  obtain ⟨z, h1, h2⟩ := Option.map_eq_some_iff.1 h
  simp only [Prod.mk.injEq] at h2
  exact ⟨z, h1, h2.1, h2.2⟩
theorem repL_one {z : List Value} (hz : z.all isOne = true) : ∀ n, (repL z n).all isOne = true
  | 0 => rfl
  | n + 1 => by simp only [repL, List.all_append, hz, repL_one hz n, Bool.and_self]
theorem repL_split (z : List Value) : ∀ a b, repL z (a + b) = repL z a ++ repL z b
  | 0, b => by simp [repL]
  | a + 1, b => by rw [show a + 1 + b = (a + b) + 1 by omega, repL, repL, repL_split z a b, List.append_assoc]
theorem getR_mid {A B C : List Value} {k n : Nat} (hk : A.length = k) (hn : B.length = n) : getR (A ++ B ++ C) k n = some B := by
  have e : ((A ++ B ++ C).drop k).take n = B := by
    rw [List.append_assoc, List.drop_left' hk, List.take_left' hn]
  unfold getR
  rw [e, if_pos hn]
theorem app_end {get : Nat → Option Blk} {L X : List Value} {t2 : TypeId} {n c2 : Nat} (h0 : get 0 = some (.cells 34 L false)) (h1 : get 1 = some (.cells t2 X false)) (hL : L.length = n * 7) (hX : X.length = 7) (oX : X.all isOne = true) (hn : n < 1000000) :
    aAppend Try.prog get 3 [29, 29] [slS 0 0 n 22, rowS 1 1 c2] = some (newS 3 (n + 1), [.put 0 .dead, .push (.cells 34 (L ++ X) false)]) := by
  obtain ⟨i, hi, h7, h56⟩ := info34
  obtain ⟨z, hz, hzl⟩ := zero34
  have hsrc : aSrc Try.prog get 7 z (.slice 34) (rowS 1 1 c2) = some (X, 1) := by
    unfold aSrc
    simp only [rowS, srcLen, srcCells, h1]
    rw [if_neg (by omega), if_neg (by omega), getR_all (n := 1 * 7) (by omega)]
    rfl
  have hg : getR L 0 (n * 7) = some L := getR_all hL
  unfold aAppend
  simp only [Try.underlying29, hi, hz, h7, h56, hzl]
  rw [if_neg (by decide)]
  simp only [hsrc, oX, hX]
  rw [if_neg (by simp)]
  simp only [slS]
  rw [if_neg (by omega), if_neg (by omega)]
  simp only [h0, hg]
  rw [if_neg (by omega), if_pos (by decide), if_neg (by rw [hL]; omega)]
  rfl
theorem app_grow {get : Nat → Option Blk} {L : List Value} {n i k cI : Nat} (h0 : get 0 = some (.cells 34 L false)) (hL : L.length = n * 7) (hi : i ≤ n) (hc : cI % 3 = 0 ∧ cI / 3 / 1000000 < k) (hn : n < 1000000) (hk : i + k = n + 1) : ∃ z, z.length = 7 ∧
    aAppend Try.prog get 3 [29, 3] [slS 0 0 i cI, iN k] = some (newS 3 (n + 1), [.push (.cells 34 (L.take (i * 7) ++ repL z k) false)]) := by
  obtain ⟨ii, hi', h7, h56⟩ := info34
  obtain ⟨z, hz, hzl, hzo⟩ := zero34'
  refine ⟨z, hzl, ?_⟩
  have hsrc : aSrc Try.prog get 7 z (.int .i64) (iN k) = some (repL z k, k) := by
    unfold aSrc iN
    simp only
    rw [if_pos (by simp only [Int.ofNat_eq_natCast]; omega)]
    rfl
  have hg : getR L 0 (i * 7) = some (L.take (i * 7)) := by
    unfold getR
    rw [List.drop_zero, if_pos (by rw [List.length_take]; omega)]
  have hu3 : Try.prog.underlying 3 = some (.int .i64) := by kernel_rfl
  unfold aAppend
  simp only [Try.underlying29, hu3, hi', hz, h7, h56, hzl]
  rw [if_neg (by decide)]
  simp only [hsrc, repL_one hzo, repL_length, hzl]
  rw [if_neg (by simp)]
  simp only [slS]
  rw [if_neg (by omega), if_neg (by omega)]
  simp only [h0, hg]
  rw [if_pos hc, hk]
  rfl
theorem copy_ok {get : Nat → Option Blk} {d doff dlen dc s soff slen sc m : Nat} {ty ty2 : TypeId} {ro : Bool} {A B C A2 D C2 : List Value} (hm : min slen dlen = m) (h0 : 0 < m) (hd : get d = some (.cells ty (A ++ B ++ C) false)) (hs : get s = some (.cells ty2 (A2 ++ D ++ C2) ro)) (hA : A.length = doff) (hB : B.length = m * 7) (hA2 : A2.length = soff) (hD : D.length = m * 7) (oD : D.all isOne = true) :
    aCopy Try.prog get [29, 29] [slS d doff dlen dc, slS s soff slen sc] = some (iN m, [.put d (.cells ty (A ++ D ++ C) false)]) := by
  have hsrc : srcCells get 7 m (slS s soff slen sc) = some D := by
    unfold srcCells slS
    simp only [hs]
    rw [if_neg (by omega), if_neg (by omega), getR_mid hA2 hD]
  unfold aCopy
  simp only [Try.underlying29, size34]
  have hl : srcLen (slS s soff slen sc) = some slen := rfl
  rw [hl]
  simp only [slS, hm]
  have hsrc' : srcCells get 7 m (.slice (some ⟨s, soff, none⟩) slen sc) = some D := hsrc
  rw [hsrc']
  simp only [oD, hD]
  rw [if_neg (by simp), if_neg (by omega)]
  simp only [hd]
  rw [if_pos (by simp; omega), putL_mid hA (by omega)]
  rfl
theorem wrap_add {n : Nat} (h : n < 1000000) : (some (Value.int .i64 (wrapF .i64 (Int.ofNat n + 1)))) = some (iN (n + 1)) := wrap_up h
theorem wrap_sub {n i : Nat} (h : n < 1000001) (hi : i ≤ n) : (some (Value.int .i64 (wrapF .i64 (Int.ofNat n - Int.ofNat i)))) = some (iN (n - i)) := by
  have e : Int.ofNat n - Int.ofNat i = Int.ofNat (n - i) := by simp only [Int.ofNat_eq_natCast]; omega
  rw [e, wrap64 (by have := Int.natCast_nonneg (n - i); simp only [Int.ofNat_eq_natCast]; omega) (by simp only [Int.ofNat_eq_natCast]; omega)]
  rfl

def gIns : HeapFn
  | [.slice (some ⟨b, 0, none⟩) n c, .int .i64 (.ofNat i), .slice (some ⟨b2, 0, none⟩) 1 c2], hp =>
    match Nat.beq c 22, Nat.beq b b2, hp.get b, hp.get b2 with
    | true, false, some (.cells ty L false), some (.cells t2 X false) =>
      match Nat.beq ty 34 && Nat.beq L.length (n * 7) && Nat.beq X.length 7 && Nat.ble i n && Nat.blt n 1000000 && L.all inert && X.all inert && L.all isOne && X.all isOne with
      | true => some (slS hp.sz 0 (n + 1) 23, heapOf ([.cells 34 (L.take (i * 7) ++ X ++ L.drop (i * 7)) false] ++ [.dead]) (killL [b, b2] hp))
      | false => none
    | _, _, _, _ => none
  | _, _ => none
noncomputable def EI : Ext := extG E5 [(82, gOver)]
theorem EI_ok : ExtOk Try.prog EI := extG_ok E5_ok (.cons hkOver .nil)
noncomputable def cI : CallF := aCall Try.prog EI 5
theorem cI_ok : CallOk Try.prog cI := aCall_sound EI_ok follows 5
theorem cI_over (args : List Value) (hp : Hp) : cI 82 args hp = gOver args hp := rfl
theorem q63 (v : Value) (O : List Blk) (g : Nat → Value) : retVal Try.prog Try.f63 (stOf 95 g [(6, v)] O) = some v := by kernel_rfl
theorem hI0 (L X : List Value) (t2 : TypeId) : (hI L X t2).get 0 = some (.cells 34 L false) := by unfold hI; rw [heapOf0_get]; rfl
theorem hI1 (L X : List Value) (t2 : TypeId) : (hI L X t2).get 1 = some (.cells t2 X false) := by unfold hI; rw [heapOf0_get]; rfl
theorem hI_sz (L X : List Value) (t2 : TypeId) : (hI L X t2).sz = 3 := rfl
/-- What Insert's own frame ends with. -/
def EndsI (R : List Value) (n : Nat) (e : Exit) (st : St) : Prop := (e = .normal ∨ e = .ret) ∧ st.df = [] ∧ ∃ c v0, v0 = slS 0 0 (n + 1) c ∧ retVal Try.prog Try.f63 st = some v0 ∧ st.hp.get 0 = some (.cells 34 R false)
section
variable {L X : List Value} {t2 : TypeId} {n c c2 i x : Nat} {W : Base}
theorem ends_of {R : List Value} {c1 : Nat} (g : Nat → Value) : EndsI R n .ret (stOf 95 g [(6, slS 0 0 (n + 1) c1)] [.cells 34 R false]) :=
  ⟨.inr rfl, rfl, c1, _, rfl, q63 _ _ g, by show (heapOf _ hp0).get 0 = _; rw [heapOf0_get]; rfl⟩
theorem eqI_ne (h : i ≠ n) : some (Value.bool (Int.ofNat i == Int.ofNat n)) = some (.bool false) := by
  have : (Int.ofNat i == Int.ofNat n) = false := beq_false_of_ne (fun e => h (Int.ofNat.inj e))
  rw [this]
theorem fixR {R : List Value} (hR : R.all inert = true) (i : Nat) (hi : i < 1) (o : Blk) (ho : [Blk.cells 34 R false][i]? = some o) : Fixed 0 o := by
  have : i = 0 := by omega
  subst this
  simp at ho
  subst ho
  exact inert_fixed (by exact hR) 0
theorem ins_end (hL : L.length = n * 7) (hX : X.length = 7) (iL : L.all inert = true) (iX : X.all inert = true) (oX : X.all isOne = true) (hn : n < 1000000) :
    FRwp Try.prog 95 W fb63 (B63 L X t2 n 22 c2 n) (EndsI (L ++ X) n) := by
  refine FRwp.pieceY cI_ok follows 1 _ _ _ _ (rI1 cI L X t2 n 22 c2 n) (Met.cons (slice_lo0 (Nat.le_refl _)) (Met.cons (by rw [beq_self_eq_true]) Met.nil)) MetH.nil (MetE.cons (app_end (hI0 L X t2) (hI1 L X t2) hL hX oX hn) MetE.nil) s63 rfl rfl (fixR (by rw [List.all_append, iL, iX]; rfl)) fun g => ends_of g
theorem take_len (hL : L.length = n * 7) (hi : i ≤ n) : (L.take (i * 7)).length = i * 7 := by rw [List.length_take]; omega
theorem drop_len (hL : L.length = n * 7) (hi : i ≤ n) : (L.drop (i * 7)).length = (n - i) * 7 := by rw [List.length_drop, hL, Nat.sub_mul]
theorem all_take {p : Value → Bool} (h : L.all p = true) (k : Nat) : (L.take k).all p = true := List.all_eq_true.2 fun v hv => List.all_eq_true.1 h v (List.mem_of_mem_take hv)
theorem all_drop {p : Value → Bool} (h : L.all p = true) (k : Nat) : (L.drop k).all p = true := List.all_eq_true.2 fun v hv => List.all_eq_true.1 h v (List.mem_of_mem_drop hv)
theorem ins_full (hL : L.length = n * 7) (hX : X.length = 7) (iL : L.all inert = true) (iX : X.all inert = true) (oL : L.all isOne = true) (oX : X.all isOne = true) (hn : n < 1000000) (hi : i < n) :
    FRwp Try.prog 95 W fb63 (B63 L X t2 n 21 c2 i) (EndsI (L.take (i * 7) ++ X ++ L.drop (i * 7)) n) := by
  have hsp : spareOf 21 = 0 := rfl
  have hc : cc 21 n i % 3 = 0 ∧ cc 21 n i / 3 / 1000000 < n + 1 - i := by
    unfold cc
    rw [if_neg (by decide), if_pos (by decide), hsp]
    have : wide 21 % 1000000 = 7 := by decide
    rw [this]
    constructor <;> omega
  have ht := take_len hL (Nat.le_of_lt hi)
  have hd := drop_len hL (Nat.le_of_lt hi)
  obtain ⟨z, hz, happ⟩ := app_grow (get := (hI L X t2).get) (k := n + 1 - i) (hI0 L X t2) hL (Nat.le_of_lt hi) hc hn (by omega)
  have hrl : ∀ k, (repL z k).length = k * 7 := fun k => by rw [repL_length, hz]
  refine FRwp.pieceY cI_ok follows 1 _ _ _ _ (rI2 cI L X t2 n 21 c2 i (L.take (i * 7)) (L.drop (i * 7)) (repL z (n + 1 - i)) (repL z (n - i))) ?_ MetH.nil ?_ s63 rfl rfl (fixR (by rw [List.all_append, List.all_append, all_take iL, iX, all_drop iL]; rfl)) fun g => ends_of g
  · refine Met.cons (slice_lo0 (Nat.le_of_lt hi)) (Met.cons (eqI_ne (by omega)) (Met.cons (wrap_add hn) (Met.cons (cap_ok (x := 0) rfl rfl) (Met.cons (met_bool (decide_eq_true (by simp only [Int.ofNat_eq_natCast]; omega))) (Met.cons (slice_hi (by omega)) (Met.cons (wrap_add hn) (Met.cons (wrap_sub (by omega) (by omega)) (Met.cons ?_ (Met.cons (wrap_add (by omega)) (Met.cons ?_ (Met.cons (slice_lo0 (Nat.le_of_lt hi)) Met.nil)))))))))))
    · have := slice_lo0 (b := 3) (c := 22) (n := n + 1) (l := i) (by omega)
      rw [cc22] at this; exact this
    · have := slice_lo0 (b := 3) (c := 22) (n := n + 1) (l := i + 1) (by omega)
      rw [cc22, show n + 1 - (i + 1) = n - i by omega] at this; exact this
  · refine MetE.cons happ (MetE.cons ?_ (MetE.cons ?_ MetE.nil))
    · have e : repL z (n + 1 - i) = repL z 1 ++ repL z (n - i) := by rw [← repL_split, show 1 + (n - i) = n + 1 - i by omega]
      have := copy_ok (get := ((hI L X t2).push (.cells 34 (L.take (i * 7) ++ repL z (n + 1 - i)) false)).get) (d := 3) (doff := i * 7) (dlen := n + 1 - i) (dc := 22) (s := 1) (soff := 0) (slen := 1) (sc := c2) (m := 1) (ty := 34) (ty2 := t2) (ro := false)
        (A := L.take (i * 7)) (B := repL z 1) (C := repL z (n - i)) (A2 := []) (D := X) (C2 := []) (by omega) (by omega) (by rw [Hp.get_push, hI_sz, if_pos rfl, e, List.append_assoc]) (by rw [Hp.get_push, hI_sz, if_neg (by omega), hI1]; simp) ht (hrl 1) rfl (by omega) oX
      exact this
    · have := copy_ok (get := (((hI L X t2).push (.cells 34 (L.take (i * 7) ++ repL z (n + 1 - i)) false)).put 3 (.cells 34 (L.take (i * 7) ++ X ++ repL z (n - i)) false)).get) (d := 3) (doff := (i + 1) * 7) (dlen := n - i) (dc := 22) (s := 0) (soff := i * 7) (slen := n - i) (sc := cc 21 n n) (m := n - i) (ty := 34) (ty2 := 34) (ro := false)
        (A := L.take (i * 7) ++ X) (B := repL z (n - i)) (C := []) (A2 := L.take (i * 7)) (D := L.drop (i * 7)) (C2 := []) (by omega) (by omega) (by rw [Hp.get_put, if_pos rfl, List.append_nil]) (by rw [Hp.get_put, if_neg (by omega), Hp.get_push, hI_sz, if_neg (by omega), hI0, List.append_nil, List.take_append_drop]) (by rw [List.length_append, ht, hX, Nat.succ_mul]) (hrl _) ht hd (all_drop oL _)
      rw [List.append_nil] at this
      exact this
theorem ins_room {J : List Value} (hL : L.length = n * 7) (hX : X.length = 7) (hJ : J.length = 7) (iL : L.all inert = true) (iX : X.all inert = true) (oL : L.all isOne = true) (oX : X.all isOne = true) (hn : n < 1000000) (hi : i < n) (hx : 0 < x) :
    FRwp Try.prog 95 W fb63 (B63 (L ++ J) X t2 n (3 * (7 + 1000000 * x)) c2 i) (EndsI (L.take (i * 7) ++ X ++ L.drop (i * 7)) n) := by
  have ht := take_len hL (Nat.le_of_lt hi)
  have hd := drop_len hL (Nat.le_of_lt hi)
  have ht1 := take_len (i := i + 1) hL hi
  have hd1 := drop_len (i := i + 1) hL hi
  have hdt : ((L.drop (i * 7)).take 7).length = 7 := by rw [List.length_take, hd]; omega
  have ed : L.drop (i * 7) = (L.drop (i * 7)).take 7 ++ L.drop ((i + 1) * 7) := by
    have := (List.take_append_drop 7 (L.drop (i * 7))).symm
    rw [List.drop_drop, show i * 7 + 7 = (i + 1) * 7 by omega] at this
    exact this
  have et : L.take ((i + 1) * 7) = L.take (i * 7) ++ (L.drop (i * 7)).take 7 := by
    rw [show (i + 1) * 7 = i * 7 + 7 by omega, List.take_add]
  have hsp : spareOf (3 * (7 + 1000000 * x)) = x := by
    unfold spareOf
    rw [show 3 * (7 + 1000000 * x) % 3 = 0 by omega]
    show 3 * (7 + 1000000 * x) / 3 / 1000000 = x
    omega
  refine FRwp.pieceY cI_ok follows 1 _ _ _ _ (rI3 cI (L ++ J) X t2 n (3 * (7 + 1000000 * x)) c2 i x (L.take ((i + 1) * 7) ++ L.drop (i * 7)) (L.take (i * 7) ++ X ++ L.drop (i * 7)) (cc (3 * (7 + 1000000 * x)) n (n + 1))) ?_ ?_ ?_ s63 rfl rfl (fixR (by rw [List.all_append, List.all_append, all_take iL, iX, all_drop iL]; rfl)) fun g => ends_of g
  · have s1 : ∀ c, fstV ((aSlice Try.prog 29 (slS 0 0 (n + 1) c) (some (iN (i + 1))) none none).map fun v => (v, none)) = some (slS 0 ((i + 1) * 7) (n - i) (cc c (n + 1) (n + 1))) := fun c => by
      have := slice_lo0 (b := 0) (c := c) (n := n + 1) (l := i + 1) (by omega)
      rw [show n + 1 - (i + 1) = n - i by omega] at this; exact this
    have s2 : ∀ c, fstV ((aSlice Try.prog 29 (slS 0 0 (n + 1) c) (some (iN i)) none none).map fun v => (v, none)) = some (slS 0 (i * 7) (n + 1 - i) (cc c (n + 1) (n + 1))) := fun c => slice_lo0 (by omega)
    exact Met.cons (slice_lo0 (Nat.le_of_lt hi)) (Met.cons (eqI_ne (by omega)) (Met.cons (wrap_add hn) (Met.cons (cap_ok (x := x) (by omega) (by omega)) (Met.cons (met_bool (decide_eq_false (by simp only [Int.ofNat_eq_natCast]; omega))) (Met.cons (wrap_add hn) (Met.cons (slice_hi (by rw [hsp]; omega)) (Met.cons (wrap_add (by omega)) (Met.cons (s1 _) (Met.cons (wrap_add (by omega)) (Met.cons (s1 _) (Met.cons (s2 _) (Met.cons (s2 _) Met.nil))))))))))))
  · refine MetH.cons ?_ MetH.nil
    rw [cI_over]
    obtain ⟨y, ys, hy⟩ : ∃ y ys, L ++ J = y :: ys := by
      cases h : L ++ J with
      | nil => have := congrArg List.length h; rw [List.length_append, hL, hJ, List.length_nil] at this; omega
      | cons y ys => exact ⟨y, ys, rfl⟩
    unfold gOver rowS slS
    simp only [hI0, hI1, hy]
    rfl
  · refine MetE.cons ?_ (MetE.cons ?_ MetE.nil)
    · have := copy_ok (get := (hI (L ++ J) X t2).get) (d := 0) (doff := (i + 1) * 7) (dlen := n - i) (dc := cc (cc (3 * (7 + 1000000 * x)) n (n + 1)) (n + 1) (n + 1)) (s := 0) (soff := i * 7) (slen := n + 1 - i) (sc := cc (cc (3 * (7 + 1000000 * x)) n (n + 1)) (n + 1) (n + 1)) (m := n - i) (ty := 34) (ty2 := 34) (ro := false)
        (A := L.take ((i + 1) * 7)) (B := L.drop ((i + 1) * 7) ++ J) (C := []) (A2 := L.take (i * 7)) (D := L.drop (i * 7)) (C2 := J) (by omega) (by omega) (by rw [hI0, List.append_nil, ← List.append_assoc, List.take_append_drop]) (by rw [hI0, List.take_append_drop]) ht1 (by rw [List.length_append, hd1, hJ]; omega) ht hd (all_drop oL _)
      rw [List.append_nil] at this
      exact this
    · have := copy_ok (get := ((hI (L ++ J) X t2).put 0 (.cells 34 (L.take ((i + 1) * 7) ++ L.drop (i * 7)) false)).get) (d := 0) (doff := i * 7) (dlen := n + 1 - i) (dc := cc (cc (3 * (7 + 1000000 * x)) n (n + 1)) (n + 1) (n + 1)) (s := 1) (soff := 0) (slen := 1) (sc := c2) (m := 1) (ty := 34) (ty2 := t2) (ro := false)
        (A := L.take (i * 7)) (B := (L.drop (i * 7)).take 7) (C := L.drop (i * 7)) (A2 := []) (D := X) (C2 := []) (by omega) (by omega) (by rw [Hp.get_put, if_pos rfl, et]) (by rw [Hp.get_put, if_neg (by omega), hI1]; simp) ht (by omega) rfl (by omega) oX
      exact this
end
end Go.Proofs.Ytiogdklmhpllfaa.LtA
namespace Go.Proofs.Ytiogdklmhpllfaa.LtA
open Go Go.Proofs Go.Proofs.Ytiogdklmhpllfaa.AI Go.RowKit

theorem slS_weak {m : BM} {h : HG} {b n c : Nat} {x : Value} (r : VRel m h (slS b 0 n c) x) : VRel m h (slS b 0 n 23) x := by
  obtain ⟨_, _, r1, o1, cap, q1, rfl, h0, hh⟩ := r.of_slice0
  cases q1
  refine .slice (.of h0.1 (by decide)) ?_
  rcases hh with hd | ⟨δ, E, h1, h2, _⟩
  · exact .inl hd
  · exact .inr ⟨δ, E, h1, h2, (fun h => absurd h (by decide)), (fun h => absurd h (by decide))⟩
theorem hk63 : CallGoal Try.prog 63 gIns := kill_goal follows Try.func63 body63 (by kernel_rfl) fun args hp v hp' he hk => by
  unfold gIns at he
  split at he
  case h_2 => cases he
  rename_i b n c i b2 c2
  split at he
  case h_2 => cases he
  rename_i ty L t2 X hc hbb hb hb2
  split at he
  case h_2 => cases he
  rename_i hcond
  cases he
  simp only [Bool.and_eq_true] at hcond
  obtain ⟨⟨⟨⟨⟨⟨⟨⟨k1, k2⟩, k3⟩, k4⟩, k5⟩, iL⟩, iX⟩, oL⟩, oX⟩ := hcond
  have hc' := Nat.eq_of_beq_eq_true hc
  have hty := Nat.eq_of_beq_eq_true k1
  have hL := Nat.eq_of_beq_eq_true k2
  have hX := Nat.eq_of_beq_eq_true k3
  have hin := Nat.le_of_ble_eq_true k4
  have hn : n < 1000000 := by simpa [Nat.blt_eq] using k5
  subst hc' hty
  have hne : b ≠ b2 := fun e => by subst e; rw [Nat.beq_refl] at hbb; cases hbb
  refine ⟨[b, b2], [.cells 34 (L.take (i * 7) ++ X ++ L.drop (i * 7)) false], rfl, fun b' hb' => ?_, fun m h w args' s ra => ?_⟩
  · have : b' = b ∨ b' = b2 := by simpa using hb'
    rcases this with rfl | rfl
    · exact ⟨_, hb, rfl⟩
    · exact ⟨_, hb2, rfl⟩
  obtain ⟨v1, bs1, e1, r1, ra1⟩ := ra.of_cons
  obtain ⟨v2, bs2, e2, r2, ra2⟩ := ra1.of_cons
  obtain ⟨v3, bs3, e3, r3, ra3⟩ := ra2.of_cons
  have e4 := ra3.of_nil
  subst e4
  obtain ⟨_, _, rr, oo, cap, q1, rfl, hcap, hh⟩ := r1.of_slice0
  cases q1
  have ev2 := r2.of_int
  subst ev2
  obtain ⟨_, _, rr2, oo2, cap2, q2, rfl, hcap2, hh2⟩ := r3.of_slice0
  cases q2
  have ea : args'.toList = [.slice (some ⟨rr, oo, none⟩) n cap, .int .i64 (.ofNat i), .slice (some ⟨rr2, oo2, none⟩) 1 cap2] := by rw [e1, e2, e3]
  have gb := ovr_sub hk h b _ hb
  have gb2 := ovr_sub hk h b2 _ hb2
  rcases hh with hd | ⟨δ, E, hm, hoff, hcok⟩
  · rw [gb] at hd; cases hd
  rcases hh2 with hd | ⟨δ2, E2, hm2, hoff2, hcok2⟩
  · rw [gb2] at hd; cases hd
  refine ⟨fun b' hb' => ?_, ?_⟩
  · have : b' = b ∨ b' = b2 := by simpa using hb'
    rcases this with rfl | rfl
    · exact ⟨_, hm⟩
    · exact ⟨_, hm2⟩
  have hE : δ + cap * 7 = E := by have := hcok.2 (by decide); simpa using this
  have hle := hcap.1
  have hrow : ∀ {o1 o2 : Blk} (b' : Nat) (x : Nat × Nat × Nat), canM m [b, b2] b' = some x → rw? (heapOf [o1, o2, .dead] hp0).get b' = true → rowsOf m [b, b2] x.1 := by
    intro o1 o2 b' x hx _
    unfold canM at hx
    match b' with
    | 0 => exact ⟨b, by simp, x, hx, rfl⟩
    | 1 => exact ⟨b2, by simp, x, hx, rfl⟩
    | b' + 2 => simp at hx
  have hargs : ∀ (c0 : Nat) {o1 o2 : Blk}, Cap0 c0 n cap → CapOk c0 n cap (δ + 0) E → VRelL (canM m [b, b2]) (heapOf [o1, o2, .dead] hp0).get [slS 0 0 n c0, iN i, rowS 1 1 c2] args'.toList := fun c0 o1 o2 h1 h2 => by
    rw [ea]
    exact .cons (.slice h1 (.inr ⟨δ, E, hm, hoff, h2⟩)) (.cons (.flat rfl) (.cons (.slice hcap2 (.inr ⟨δ2, E2, hm2, hoff2, hcok2⟩)) .nil))
  have hInert : ∀ {R : List Value}, R = L.take (i * 7) ++ X ++ L.drop (i * 7) → inertB (.cells 34 R false) = true := fun e => by
    subst e
    show List.all _ inert = true
    rw [List.all_append, List.all_append, all_take iL, iX, all_drop iL]; rfl
  have fin : ∀ {R : List Value} {e : Exit} {st : St}, R = L.take (i * 7) ++ X ++ L.drop (i * 7) → EndsI R n e st → (e = .normal ∨ e = .ret) ∧ st.df = [] ∧ ∃ v0, retVal Try.prog Try.f63 st = some v0 ∧ ok3 v0 = true ∧
      (∀ b ∈ [0], ∃ o, st.hp.get b = some o ∧ okBlk o = true ∧ rwB o = true) ∧ (∀ m h x, VRel m h (sh3 [0] hp.sz v0) x → VRel m h (slS hp.sz 0 (n + 1) 23) x) ∧ [.cells 34 (L.take (i * 7) ++ X ++ L.drop (i * 7)) false] = outOf [0] hp.sz st.hp := by
    intro R e st hR q
    obtain ⟨p1, p2, c1, v0, rfl, p3, p4⟩ := q
    refine ⟨p1, p2, _, p3, rfl, fun b' hb' => ?_, fun m h x hx => ?_, ?_⟩
    · have : b' = 0 := by simpa using hb'
      subst this
      exact ⟨_, p4, ok2_inert (hInert hR), rfl⟩
    · have : sh3 [0] hp.sz (slS 0 0 (n + 1) c1) = slS hp.sz 0 (n + 1) c1 := by simp [sh3, sh2, sh1, rho, idxOf, slS]
      rw [this] at hx
      exact slS_weak hx
    · subst hR
      simp only [outOf, List.map_cons, List.map_nil, p4, Option.getD_some, inert_shBlk (hInert rfl)]
  have okH : ∀ (o1 o2 : Blk), (heapOf [o1, o2, .dead] hp0).ok := fun o1 o2 => heapOf_ok _ _ hp0_ok
  by_cases hend : i = n
  · subst hend
    obtain ⟨J, hJ, _, sS⟩ := start2_sim s hk hne hb hb2 iL iX hm 0 (by rw [hL]; omega)
    have hJ0 := List.eq_nil_of_length_eq_zero hJ
    subst hJ0
    rw [List.append_nil] at sS
    refine ⟨[0], _, _, _, rfl, rfl, okH _ _, sS, hrow, hargs 22 hcap hcok, by rw [ntmps63]; simp, fun W => ?_⟩
    rw [ntmps63]
    refine FRwp.mono (ins_end hL hX iL iX oX hn) fun e st q => fin ?_ q
    rw [List.take_of_length_le (by omega), List.drop_of_length_le (by omega), List.append_nil]
  · have hlt : i < n := by omega
    by_cases hfull : cap = n
    · obtain ⟨J, hJ, _, sS⟩ := start2_sim s hk hne hb hb2 iL iX hm 0 (by rw [hL]; omega)
      have hJ0 := List.eq_nil_of_length_eq_zero hJ
      subst hJ0
      rw [List.append_nil] at sS
      refine ⟨[0], _, _, _, rfl, rfl, okH _ _, sS, hrow, hargs 21 ⟨hle, fun _ => by omega⟩ ⟨fun _ => by omega, (fun h => absurd h (by decide))⟩, by rw [ntmps63]; simp, fun W => ?_⟩
      rw [ntmps63]
      exact FRwp.mono (ins_full hL hX iL iX oL oX hn hlt) fun e st q => fin rfl q
    · obtain ⟨J, hJ, _, sS⟩ := start2_sim s hk hne hb hb2 iL iX hm 7 (by rw [hL]; omega)
      refine ⟨[0], _, _, _, rfl, rfl, okH _ _, sS, hrow, hargs (3 * (7 + 1000000 * (cap - n))) ⟨hle, fun _ => by omega⟩ ⟨fun _ => by omega, (fun h => by omega)⟩, by rw [ntmps63]; simp, fun W => ?_⟩
      rw [ntmps63]
      exact FRwp.mono (ins_room hL hX hJ iL iX oL oX hn hlt (by omega)) fun e st q => fin rfl q
end Go.Proofs.Ytiogdklmhpllfaa.LtA
namespace Go.Proofs.Ytiogdklmhpllfaa.LtA
open Go Go.Proofs Go.Proofs.Ytiogdklmhpllfaa.AI Go.RowKit

end Go.Proofs.Ytiogdklmhpllfaa.LtA
