/- PairNil, of the given program: for every object and every frame the law returns true, and the arguments read as they did. No condition. -/
import Derived.Test.YtdnmcelmblgpbaaGreatPnU
import Derived.Test.YtdnmcelmblgpbaaGreatRows
set_option linter.unusedVariables false
set_option linter.unusedSimpArgs false
set_option maxRecDepth 100000
namespace Go.Proofs.YtdnmcelmblgpbaaGreat.PnA
open Go Go.Proofs Go.Proofs.YtdnmcelmblgpbaaGreat.AI Go.RowKit Go.ChangeShapes

/-! ### 1. Few, told -/
def Told (ps : List PartV) (args : List Value) (hp : Hp) : Prop :=
  (∃ a b d e, args = [frameV a b d e (.slice none 0 0)] ∧ ps = []) ∨
  ∃ a b d e bk c o, args = [frameV a b d e (.slice (some ⟨bk, 0, none⟩) ps.length c)] ∧ hp.get bk = some o ∧ inertB o = true ∧ (ps = [] ∨ ∃ ty ro, o = .cells ty (rowL ps) ro)
open Classical in
noncomputable def gFew (ps : List PartV) : HeapFn := fun args hp => if Told ps args hp then some (.bool (fewB ps), heapOf [.dead] hp) else none
theorem runN0 (a b d e : Int) : (exec Tryz.prog none1 20 (.seq c0 (.seq (.seq c1 (.block 0 (.loop cb))) c7)) ⟨tmsOf [frameV a b d e (.slice none 0 0)] 0 .leaf, heapOf [.dead] hp0, []⟩).map (look2 0 [] [2]) = some (.ret, [], [(2, .bool true)], true) := by kernel_rfl
theorem retN (v : Value) (g : Nat → Value) : retVal Tryz.prog Tryz.f6 (stOf 52 g [(2, v)] []) = some v := by kernel_rfl
theorem safeF : codeSafe Tryz.prog 52 (.seq c0 (.seq (.seq c1 (.block 0 (.loop cb))) c7)) = true := by kernel_rfl
theorem ntmps6 : Tryz.f6.ntmps = 52 := by kernel_rfl
theorem hkFew (ps : List PartV) : CallGoal Tryz.prog 6 (gFew ps) := scan_goal follows Tryz.func6 bodyFew (by kernel_rfl) fun args hp v hp' h hk => by
  unfold gFew at h
  split at h
  case isFalse => cases h
  rename_i hV
  cases h
  rw [ntmps6]
  rcases hV with ⟨a, b, d, e, rfl, rfl⟩ | ⟨a, b, d, e, bk, c, o, rfl, hb, hi, hps⟩
  · refine ⟨[], [], [], rfl, rfl, rfl, rfl, (fun b hb => by cases hb), rfl, (by simp), fun W => ?_⟩
    have e1 : [frameV a b d e (.slice none 0 0)].map (sh3 [] 0) = [frameV a b d e (.slice none 0 0)] := by simp [frameV, sh3, sh2, sh1]
    rw [e1]
    exact FRwp.pieceE none1_ok follows 0 [] [2] [] [(2, .bool true)] (runN0 a b d e) safeF rfl rfl rfl (fun i hi => absurd hi (Nat.not_lt_zero _)) fun g => ⟨.inr rfl, rfl, .bool true, retN _ g, rfl, (fun b hb => by cases hb), rfl, rfl⟩
  · refine ⟨[bk], [], [], rfl, rfl, rfl, rfl, fun b' hb' => ?_, rfl, (by simp), fun W => ?_⟩
    · have : b' = bk := by simpa using hb'
      subst this
      exact ⟨o, hb, inert_start hi⟩
    · have e1 : [frameV a b d e (.slice (some ⟨bk, 0, none⟩) ps.length c)].map (sh3 [bk] 0) = [frameV a b d e (rowS ps.length c)] := by
        simp [frameV, sh3, sh2, sh1, rho, idxOf, rowS]
      have e2 : startHp [bk] hp = heapOf [roBlk o, .dead] hp0 := by
        unfold startHp
        simp [hb, inert_shBlk hi]
      have hi' : inertB (roBlk o) = true := by cases o <;> exact hi
      have hps' : ps = [] ∨ ∃ ty ro, roBlk o = .cells ty (rowL ps) ro := by
        rcases hps with h | ⟨ty, ro, rfl⟩
        · exact .inl h
        · exact .inr ⟨ty, true, rfl⟩
      rw [e1, e2]
      exact FRwp.mono (few_fr (roBlk o) hi' ps hps' c a b d e W) fun x st q => ⟨q.1, q.2.1, .bool (fewB ps), q.2.2, rfl, (fun b hb => by cases hb), rfl, rfl⟩

/-! ### 2. The law's run -/
noncomputable def E1 (ps : List PartV) : Ext := extG (extH Tryz.prog [(9, gAwake)]) [(6, gFew ps)]
theorem E1_ok (ps : List PartV) : ExtOk Tryz.prog (E1 ps) := extG_ok (extH_ok (.cons hkAwake .nil)) (.cons (hkFew ps) .nil)
noncomputable def lb : Code := (Tryz.f3.body).getD .skip
theorem bodyLaw : Tryz.f3.body = some lb := by kernel_rfl
theorem safeL : codeSafe Tryz.prog 54 lb = true := by kernel_rfl
theorem ntmps3 : Tryz.f3.ntmps = 54 := by kernel_rfl
section
variable (ps : List PartV) (o : Blk) (s x0 x1 x2 x3 x4 x5 x6 x7 x8 x9 xa xb : Value) (a b d e : Int)
def objV : Value := .agg #[x0, x1, x2, x3, x4, x5, x6, x7, x8, x9, xa, xb]
/-- The heap in which Few is called. -/
def hX : Hp := heapOf [o, .cells 27 [x0, x1, x2, x3, x4, x5, x6, x7, x8, x9, xa, xb] false, .cells 30 [.int .i64 a, .int .i64 b, .int .i64 d, .int .i64 e, s] false] hp0
abbrev StL : St := ⟨tmsOf [objV x0 x1 x2 x3 x4 x5 x6 x7 x8 x9 xa xb, frameV a b d e s] 0 .leaf, heapOf [o] hp0, []⟩
noncomputable abbrev cX : CallF := aCall Tryz.prog (E1 ps) 300
theorem runT : (execH Tryz.prog (cX ps) [] [(11, .bool true, [.dead])] 40 lb (StL o s x0 x1 x2 x3 x4 x5 x6 x7 x8 x9 xa xb a b d e)).map (fun x => (look2 0 [] [4] (x.1, x.2.1), x.2.2)) =
    some ((.ret, [], [(4, .bool true)], true), [], [(cX ps 6 [frameV a b d e s] (hX o s x0 x1 x2 x3 x4 x5 x6 x7 x8 x9 xa xb a b d e), (.bool true, heapOf [.dead] (hX o s x0 x1 x2 x3 x4 x5 x6 x7 x8 x9 xa xb a b d e)))]) := by kernel_rfl
theorem runF : (execH Tryz.prog (cX ps) [] [(11, .bool false, [.dead])] 40 lb (StL o s x0 x1 x2 x3 x4 x5 x6 x7 x8 x9 xa xb a b d e)).map (fun x => (look2 0 [] [4] (x.1, x.2.1), x.2.2)) =
    some ((.ret, [], [(4, .bool true)], true), [], [(cX ps 6 [frameV a b d e s] (hX o s x0 x1 x2 x3 x4 x5 x6 x7 x8 x9 xa xb a b d e), (.bool false, heapOf [.dead] (hX o s x0 x1 x2 x3 x4 x5 x6 x7 x8 x9 xa xb a b d e)))]) := by kernel_rfl
theorem retL (v : Value) (g : Nat → Value) : retVal Tryz.prog Tryz.f3 (stOf 54 g [(4, v)] []) = some v := by kernel_rfl
theorem owed_few (hi : inertB o = true) (hs : (s = .slice none 0 0 ∧ ps = []) ∨ (∃ c, s = .slice (some ⟨0, 0, none⟩) ps.length c) ∧ (ps = [] ∨ ∃ ty ro, o = .cells ty (rowL ps) ro)) :
    cX ps 6 [frameV a b d e s] (hX o s x0 x1 x2 x3 x4 x5 x6 x7 x8 x9 xa xb a b d e) = some (.bool (fewB ps), heapOf [.dead] (hX o s x0 x1 x2 x3 x4 x5 x6 x7 x8 x9 xa xb a b d e)) := by
  have hT : Told ps [frameV a b d e s] (hX o s x0 x1 x2 x3 x4 x5 x6 x7 x8 x9 xa xb a b d e) := by
    rcases hs with ⟨rfl, h⟩ | ⟨⟨c, rfl⟩, h⟩
    · exact .inl ⟨a, b, d, e, rfl, h⟩
    · exact .inr ⟨a, b, d, e, 0, c, o, rfl, by unfold hX; rw [heapOf0_get]; rfl, hi, h⟩
  show aCall Tryz.prog (E1 ps) 300 6 _ _ = _
  rw [aCall]
  have hE : E1 ps 6 = some fun _ args h => gFew ps args h := rfl
  rw [hE]
  simp only [gFew, if_pos hT]
theorem law_fr (W : World) (hi : inertB o = true) (hs : (s = .slice none 0 0 ∧ ps = []) ∨ (∃ c, s = .slice (some ⟨0, 0, none⟩) ps.length c) ∧ (ps = [] ∨ ∃ ty ro, o = .cells ty (rowL ps) ro)) :
    FRwp Tryz.prog 54 W lb (StL o s x0 x1 x2 x3 x4 x5 x6 x7 x8 x9 xa xb a b d e) fun x st => (x = .normal ∨ x = .ret) ∧ st.df = [] ∧ ∃ v, retVal Tryz.prog Tryz.f3 st = some v ∧ v = .bool true := by
  have hc : CallOk Tryz.prog (cX ps) := aCall_sound (E1_ok ps) follows 300
  have ho := owed_few ps o s x0 x1 x2 x3 x4 x5 x6 x7 x8 x9 xa xb a b d e hi hs
  cases hf : fewB ps with
  | true =>
    rw [hf] at ho
    exact FRwp.pieceH hc follows 0 _ _ _ _ (runT ps o s x0 x1 x2 x3 x4 x5 x6 x7 x8 x9 xa xb a b d e) Met.nil (MetH.cons ho MetH.nil) safeL rfl rfl rfl (fun i hi => absurd hi (Nat.not_lt_zero _)) fun g => ⟨.inr rfl, rfl, _, retL _ g, rfl⟩
  | false =>
    rw [hf] at ho
    exact FRwp.pieceH hc follows 0 _ _ _ _ (runF ps o s x0 x1 x2 x3 x4 x5 x6 x7 x8 x9 xa xb a b d e) Met.nil (MetH.cons ho MetH.nil) safeL rfl rfl rfl (fun i hi => absurd hi (Nat.not_lt_zero _)) fun g => ⟨.inr rfl, rfl, _, retL _ g, rfl⟩
end
end Go.Proofs.YtdnmcelmblgpbaaGreat.PnA
