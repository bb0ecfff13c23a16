/- Few, of the reference of layer 9: whatever the parts are, it ends, and answers so. -/
import Derived.Test.YtdnmcelmblgpbaaGreatAi36
import Derived.Test.YtdnmcelmblgpbaaGreatProg
set_option linter.unusedVariables false
set_option linter.unusedSimpArgs false
set_option maxRecDepth 100000
namespace Go.Proofs.YtdnmcelmblgpbaaGreat.PnA
open Go Go.Proofs Go.Proofs.YtdnmcelmblgpbaaGreat.AI Go.RowKit

theorem follows : Tryz.prog.follows .mixedOrders = true := by kernel_rfl
/-- What is told of a part: its numbers, and how long its rows are. -/
structure PartV where
  (k a b c d e f : Int)
  (n1 n2 n3 : Nat)
  (s : ByteArray)
def pc (p : PartV) : List Value := [.int .i64 p.k, .int .i64 p.a, .chan (some p.n1), .int .i64 p.b, .chan (some p.n2), .chan (some p.n3), .int .i64 p.c, .int .i64 p.d, .int .i64 p.e, .int .i64 p.f, .string p.s]
def rowL (ps : List PartV) : List Value := ps.flatMap pc
def frameV (a b c d : Int) (s : Value) : Value := .agg #[.int .i64 a, .int .i64 b, .int .i64 c, .int .i64 d, s]
def b1 (p : PartV) : Bool := decide (80 < Int.ofNat p.n1)
def b2 (p : PartV) : Bool := decide (60 < Int.ofNat p.n2)
def b3 (p : PartV) : Bool := decide (80 < Int.ofNat p.n3)
def b4 (p : PartV) : Bool := decide (600 < Int.ofNat p.s.size)
def bad (p : PartV) : Bool := b1 p || b2 p || b3 p || b4 p
def fewB (ps : List PartV) : Bool := decide (Int.ofNat ps.length ≤ 12) && !(ps.any bad)
theorem rowL_inert (ps : List PartV) : (rowL ps).all inert = true := by
  unfold rowL
  rw [List.all_flatMap]
  exact List.all_eq_true.2 fun p _ => rfl

def sL : Code → Code
  | .seq a _ => a
  | c => c
def sR : Code → Code
  | .seq _ b => b
  | c => c
def unB : Code → Code
  | .block _ b => b
  | c => c
def unL : Code → Code
  | .loop b => b
  | c => c
noncomputable def fb : Code := (Tryz.f6.body).getD .skip
noncomputable def c0 : Code := sL fb
noncomputable def c1 : Code := sL (sL (sR fb))
noncomputable def cb : Code := unL (unB (sR (sL (sR fb))))
noncomputable def c7 : Code := sR (sR fb)
theorem bodyFew : Tryz.f6.body = some (.seq c0 (.seq (.seq c1 (.block 0 (.loop cb))) c7)) := by kernel_rfl
def none1 : CallF := fun _ _ _ => none
theorem none1_ok : CallOk Tryz.prog none1 := fun f args hp v hp' h => by cases h

def ptr1 : Value := .pointer (some ⟨1, 0, none⟩)
def rowS (n c : Nat) : Value := .slice (some ⟨0, 0, none⟩) n c
def fr1 (a b d e : Int) (n c : Nat) : Blk := .cells 30 [.int .i64 a, .int .i64 b, .int .i64 d, .int .i64 e, rowS n c] false
section
variable (o : Blk) (n c : Nat) (a b d e : Int) (W : World)
/-- Ahead of the loop, and behind it. -/
abbrev S0 (g : Nat → Value) : St := stOf 52 g [(1, ptr1), (2, .bool false)] [o, fr1 a b d e n c]
abbrev S1 (i : Nat) (g : Nat → Value) : St := stOf 52 g [(1, ptr1), (2, .bool false), (3, .int .i64 (Int.ofNat i))] [o, fr1 a b d e n c]
abbrev SR (v : Value) (g : Nat → Value) : St := stOf 52 g [(2, v)] [o]
abbrev St0 : St := ⟨tmsOf [frameV a b d e (rowS n c)] 0 .leaf, heapOf [o, .dead] hp0, []⟩
theorem run0 : (execQ Tryz.prog none1 [] 10 c0 (St0 o n c a b d e)).map (fun r => (look2 1 [0, 2] [1, 2] (r.1, r.2.1), r.2.2)) = some ((.normal, [o, fr1 a b d e n c], [(1, ptr1), (2, .bool false)], true), []) := by kernel_rfl
theorem run1 (g : Nat → Value) : (execQ Tryz.prog none1 [] 10 c1 (S0 o n c a b d e g)).map (fun r => (look2 1 [0, 1] [1, 2, 3] (r.1, r.2.1), r.2.2)) = some ((.normal, [o, fr1 a b d e n c], [(1, ptr1), (2, .bool false), (3, .int .i64 (Int.ofNat 0))], true), []) := by kernel_rfl
theorem run7 (g : Nat → Value) : (execQ Tryz.prog none1 [] 10 c7 (S0 o n c a b d e g)).map (fun r => (look2 1 [0] [2] (r.1, r.2.1), r.2.2)) = some ((.ret, [o], [(2, .bool (decide (Int.ofNat n ≤ 12)))], true), []) := by kernel_rfl
/-- The loop's end. -/
theorem runX1 (i : Nat) (g : Nat → Value) : (execQ Tryz.prog none1 [(9, .bool false)] 20 cb (S1 o n c a b d e i g)).map (fun r => (look2 1 [0, 1] [1, 2] (r.1, r.2.1), r.2.2)) =
    some ((.exit 0, [o, fr1 a b d e n c], [(1, ptr1), (2, .bool false)], true), [(some (.bool (decide (Int.ofNat i < Int.ofNat n))), .bool false)]) := by kernel_rfl
theorem runX2 (i : Nat) (g : Nat → Value) : (execQ Tryz.prog none1 [(9, .bool true), (14, .bool false)] 20 cb (S1 o n c a b d e i g)).map (fun r => (look2 1 [0, 1] [1, 2] (r.1, r.2.1), r.2.2)) =
    some ((.exit 0, [o, fr1 a b d e n c], [(1, ptr1), (2, .bool false)], true), [(some (.bool (decide (Int.ofNat i < Int.ofNat n))), .bool true), (some (.bool (decide (Int.ofNat n ≤ 12))), .bool false)]) := by kernel_rfl
/-- What is owed for a part that is looked at. -/
noncomputable def owed (i : Nat) (p : PartV) : List Obl :=
  [(some (.bool (decide (Int.ofNat i < Int.ofNat n))), .bool true), (some (.bool (decide (Int.ofNat n ≤ 12))), .bool true),
   (fstV ((aIndexAddr Tryz.prog 28 (rowS n c) (.int .i64 (Int.ofNat i))).map fun v => (v, none)), .pointer (some ⟨0, i * 11, none⟩)),
   (aLoad Tryz.prog (heapOf ([o, fr1 a b d e n c] ++ [.dead]) hp0).get 83 (.pointer (some ⟨0, i * 11, none⟩)), .agg ⟨pc p⟩)]
def seen (i : Nat) (p : PartV) : List (Tmp × Value) := [(9, .bool true), (14, .bool true), (21, .pointer (some ⟨0, i * 11, none⟩)), (22, .agg ⟨pc p⟩)]
theorem runB1 (i : Nat) (p : PartV) (g : Nat → Value) : (execQ Tryz.prog none1 (seen i p ++ [(27, .bool true)]) 20 cb (S1 o n c a b d e i g)).map (fun r => (look2 1 [0] [2] (r.1, r.2.1), r.2.2)) =
    some ((.ret, [o], [(2, .bool false)], true), owed o n c a b d e i p ++ [(some (.bool (b1 p)), .bool true)]) := by kernel_rfl
theorem runB2 (i : Nat) (p : PartV) (g : Nat → Value) : (execQ Tryz.prog none1 (seen i p ++ [(27, .bool false), (33, .bool true)]) 20 cb (S1 o n c a b d e i g)).map (fun r => (look2 1 [0] [2] (r.1, r.2.1), r.2.2)) =
    some ((.ret, [o], [(2, .bool false)], true), owed o n c a b d e i p ++ [(some (.bool (b1 p)), .bool false), (some (.bool (b2 p)), .bool true)]) := by kernel_rfl
theorem runB3 (i : Nat) (p : PartV) (g : Nat → Value) : (execQ Tryz.prog none1 (seen i p ++ [(27, .bool false), (33, .bool false), (39, .bool true)]) 20 cb (S1 o n c a b d e i g)).map (fun r => (look2 1 [0] [2] (r.1, r.2.1), r.2.2)) =
    some ((.ret, [o], [(2, .bool false)], true), owed o n c a b d e i p ++ [(some (.bool (b1 p)), .bool false), (some (.bool (b2 p)), .bool false), (some (.bool (b3 p)), .bool true)]) := by kernel_rfl
theorem runB4 (i : Nat) (p : PartV) (g : Nat → Value) : (execQ Tryz.prog none1 (seen i p ++ [(27, .bool false), (33, .bool false), (39, .bool false), (46, .bool true)]) 20 cb (S1 o n c a b d e i g)).map (fun r => (look2 1 [0] [2] (r.1, r.2.1), r.2.2)) =
    some ((.ret, [o], [(2, .bool false)], true), owed o n c a b d e i p ++ [(some (.bool (b1 p)), .bool false), (some (.bool (b2 p)), .bool false), (some (.bool (b3 p)), .bool false), (some (.bool (b4 p)), .bool true)]) := by kernel_rfl
theorem runG (i : Nat) (p : PartV) (g : Nat → Value) : (execQ Tryz.prog none1 (seen i p ++ [(27, .bool false), (33, .bool false), (39, .bool false), (46, .bool false), (17, .int .i64 (Int.ofNat (i + 1)))]) 20 cb (S1 o n c a b d e i g)).map (fun r => (look2 1 [0, 1] [1, 2, 3] (r.1, r.2.1), r.2.2)) =
    some ((.normal, [o, fr1 a b d e n c], [(1, ptr1), (2, .bool false), (3, .int .i64 (Int.ofNat (i + 1)))], true),
      owed o n c a b d e i p ++ [(some (.bool (b1 p)), .bool false), (some (.bool (b2 p)), .bool false), (some (.bool (b3 p)), .bool false), (some (.bool (b4 p)), .bool false), (some (.int .i64 (wrapF .i64 (Int.ofNat i + 1))), .int .i64 (Int.ofNat (i + 1)))]) := by kernel_rfl
theorem ret0 (v : Value) (g : Nat → Value) : retVal Tryz.prog Tryz.f6 (SR o v g) = some v := by kernel_rfl
end

theorem met_app {x y : List Obl} (h1 : Met x) (h2 : Met y) : Met (x ++ y) := fun o ho => by
  rcases List.mem_append.1 ho with h | h
  · exact h1 o h
  · exact h2 o h
theorem good_all {ps : List PartV} (h : ∀ j, j < ps.length → ∀ p, ps[j]? = some p → bad p = false) : ps.any bad = false := by
  rw [List.any_eq_false]
  intro p hp
  obtain ⟨j, hj, rfl⟩ := List.getElem_of_mem hp
  simp [h j hj _ (List.getElem?_eq_getElem hj)]
theorem size83 : tsize Tryz.prog 83 = some 11 := by kernel_rfl
theorem agg83 : tagg Tryz.prog 83 = some true := by kernel_rfl
theorem safe0 : codeSafe Tryz.prog 52 c0 = true := by kernel_rfl
theorem safe1 : codeSafe Tryz.prog 52 c1 = true := by kernel_rfl
theorem safeB : codeSafe Tryz.prog 52 cb = true := by kernel_rfl
theorem safe7 : codeSafe Tryz.prog 52 c7 = true := by kernel_rfl
theorem idx_ok {n i c : Nat} (h : i < n) : fstV ((aIndexAddr Tryz.prog 28 (rowS n c) (.int .i64 (Int.ofNat i))).map fun v => (v, none)) = some (.pointer (some ⟨0, i * 11, none⟩)) := by
  have h1 : (0 : Int) ≤ Int.ofNat i ∧ Int.ofNat i < (n : Int) := ⟨Int.natCast_nonneg i, by simpa using h⟩
  simp only [aIndexAddr, rowS, Tryz.underlying28, size83]
  rw [if_pos h1]
  simp [fstV]
theorem load_ok {o : Blk} {b : Blk} {ps : List PartV} {i : Nat} {p : PartV} (ho : ∃ ty ro, o = .cells ty (rowL ps) ro) (h : ps[i]? = some p) :
    aLoad Tryz.prog (heapOf ([o, b] ++ [.dead]) hp0).get 83 (.pointer (some ⟨0, i * 11, none⟩)) = some (.agg ⟨pc p⟩) := by
  obtain ⟨ty, ro, rfl⟩ := ho
  have hg : (heapOf ([Blk.cells ty (rowL ps) ro, b] ++ [.dead]) hp0).get 0 = some (.cells ty (rowL ps) ro) := by rw [heapOf0_get]; rfl
  simp only [aLoad, hg, agg83, size83]
  have := flat_getR (f := pc) (k := 11) (ps := ps) (fun _ _ => rfl) h
  unfold rowL
  rw [this]
  rfl

theorem few_fr (o : Blk) (ho : inertB o = true) (ps : List PartV) (hps : ps = [] ∨ ∃ ty ro, o = .cells ty (rowL ps) ro) (c : Nat) (a b d e : Int) (W : World) :
    FRwp Tryz.prog 52 W (.seq c0 (.seq (.seq c1 (.block 0 (.loop cb))) c7)) (St0 o ps.length c a b d e)
      (fun e st => (e = .normal ∨ e = .ret) ∧ st.df = [] ∧ retVal Tryz.prog Tryz.f6 st = some (.bool (fewB ps))) := by
  have hO : ∀ r : List Blk, ∀ i, i < 1 → ∀ o', (o :: r)[i]? = some o' → Fixed 1 o' := by
    intro r i hi o' h
    have : i = 0 := by omega
    subst this
    simp at h
    subst h
    exact inert_fixed ho 1
  refine FRwp.seq (Q1 := fun x st => x = .normal ∧ ∃ g, st = S0 o ps.length c a b d e g) (FRwp.piece none1_ok follows 1 _ _ _ _ (run0 o ps.length c a b d e) Met.nil safe0 rfl rfl rfl (hO _) fun g => ⟨rfl, g, rfl⟩) ?_ (fun x st hne hq => absurd hq.1 hne)
  rintro st ⟨-, g, rfl⟩
  let Q2 : Exit → St → Prop := fun x st => (x = .normal ∧ ∃ g, st = S0 o ps.length c a b d e g ∧ fewB ps = decide (Int.ofNat ps.length ≤ 12)) ∨ (x = .ret ∧ ∃ g, st = SR o (.bool false) g ∧ fewB ps = false)
  refine FRwp.seq (Q1 := Q2) ?_ ?_ ?_
  · refine FRwp.seq (Q1 := fun x st => x = .normal ∧ ∃ g, st = S1 o ps.length c a b d e 0 g) (FRwp.piece none1_ok follows 1 _ _ _ _ (run1 o ps.length c a b d e g) Met.nil safe1 rfl rfl rfl (hO _) fun g => ⟨rfl, g, rfl⟩) ?_ (fun x st hne hq => absurd hq.1 hne)
    rintro st ⟨-, g, rfl⟩
    refine FRwp.block ?_
    refine FRwp.loop (fun k st => ∃ i g, i ≤ ps.length ∧ k = ps.length - i ∧ (∀ j, j < i → ∀ p, ps[j]? = some p → bad p = false) ∧ st = S1 o ps.length c a b d e i g) ?_ (k := ps.length) ⟨0, g, Nat.zero_le _, rfl, fun j hj => absurd hj (Nat.not_lt_zero _), rfl⟩
    rintro k st ⟨i, g, hi, hk, hgood, rfl⟩
    cases h9 : decide (Int.ofNat i < Int.ofNat ps.length) with
    | false =>
      refine FRwp.piece none1_ok follows 1 _ _ _ _ (runX1 o ps.length c a b d e i g) (Met.cons (met_bool h9) Met.nil) safeB rfl rfl rfl (hO _) fun g' => .inr ⟨by simp, ?_⟩
      show (if (0 : Nat) = 0 then Q2 .normal _ else Q2 (.exit 0) _)
      rw [if_pos rfl]
      have hii : i = ps.length := by simp at h9; omega
      refine .inl ⟨rfl, g', rfl, ?_⟩
      unfold fewB
      rw [good_all (fun j hj => hgood j (by omega))]
      simp
    | true =>
      have hlt : i < ps.length := by simpa using h9
      cases h14 : decide (Int.ofNat ps.length ≤ 12) with
      | false =>
        refine FRwp.piece none1_ok follows 1 _ _ _ _ (runX2 o ps.length c a b d e i g) (Met.cons (met_bool h9) (Met.cons (met_bool h14) Met.nil)) safeB rfl rfl rfl (hO _) fun g' => .inr ⟨by simp, ?_⟩
        show (if (0 : Nat) = 0 then Q2 .normal _ else Q2 (.exit 0) _)
        rw [if_pos rfl]
        refine .inl ⟨rfl, g', rfl, ?_⟩
        unfold fewB
        rw [h14]; rfl
      | true =>
        obtain ⟨p, hp⟩ : ∃ p, ps[i]? = some p := ⟨_, List.getElem?_eq_getElem hlt⟩
        have hpm : p ∈ ps := List.mem_of_getElem? hp
        have hrow : ∃ ty ro, o = .cells ty (rowL ps) ro := by
          rcases hps with h | h
          · subst h; cases hpm
          · exact h
        have hmet : Met (owed o ps.length c a b d e i p) := Met.cons (met_bool h9) (Met.cons (met_bool h14) (Met.cons (idx_ok hlt) (Met.cons (load_ok hrow hp) Met.nil)))
        have hbad : bad p = true → fewB ps = false := fun h => by
          unfold fewB
          have : ps.any bad = true := List.any_eq_true.2 ⟨p, hpm, h⟩
          rw [this]; simp
        have hret : ∀ g', Exit.ret ≠ Exit.normal → fewB ps = false → (Exit.ret = Exit.normal ∧ ∃ k', k' < k ∧ ∃ i g, i ≤ ps.length ∧ k' = ps.length - i ∧ (∀ j, j < i → ∀ p, ps[j]? = some p → bad p = false) ∧ SR o (.bool false) g' = S1 o ps.length c a b d e i g) ∨ (Exit.ret ≠ Exit.normal ∧ Q2 .ret (SR o (.bool false) g')) := fun g' h1 h2 => .inr ⟨h1, .inr ⟨rfl, g', rfl, h2⟩⟩
        cases e1 : b1 p with
        | true => exact FRwp.piece none1_ok follows 1 _ _ _ _ (runB1 o ps.length c a b d e i p g) (met_app hmet (Met.cons (met_bool e1) Met.nil)) safeB rfl rfl rfl (hO _) fun g' => hret g' (by simp) (hbad (by simp [bad, e1]))
        | false =>
          cases e2 : b2 p with
          | true => exact FRwp.piece none1_ok follows 1 _ _ _ _ (runB2 o ps.length c a b d e i p g) (met_app hmet (Met.cons (met_bool e1) (Met.cons (met_bool e2) Met.nil))) safeB rfl rfl rfl (hO _) fun g' => hret g' (by simp) (hbad (by simp [bad, e2]))
          | false =>
            cases e3 : b3 p with
            | true => exact FRwp.piece none1_ok follows 1 _ _ _ _ (runB3 o ps.length c a b d e i p g) (met_app hmet (Met.cons (met_bool e1) (Met.cons (met_bool e2) (Met.cons (met_bool e3) Met.nil)))) safeB rfl rfl rfl (hO _) fun g' => hret g' (by simp) (hbad (by simp [bad, e3]))
            | false =>
              cases e4 : b4 p with
              | true => exact FRwp.piece none1_ok follows 1 _ _ _ _ (runB4 o ps.length c a b d e i p g) (met_app hmet (Met.cons (met_bool e1) (Met.cons (met_bool e2) (Met.cons (met_bool e3) (Met.cons (met_bool e4) Met.nil))))) safeB rfl rfl rfl (hO _) fun g' => hret g' (by simp) (hbad (by simp [bad, e4]))
              | false =>
                have hw : (some (Value.int .i64 (wrapF .i64 (Int.ofNat i + 1)))) = some (Value.int .i64 (Int.ofNat (i + 1))) := by
                  have hle : i < 12 := by simp at h14; omega
                  have : ∀ i, i < 12 → wrapF .i64 (Int.ofNat i + 1) = Int.ofNat (i + 1) := by decide +kernel
                  rw [this i hle]
                refine FRwp.piece none1_ok follows 1 _ _ _ _ (runG o ps.length c a b d e i p g) (met_app hmet (Met.cons (met_bool e1) (Met.cons (met_bool e2) (Met.cons (met_bool e3) (Met.cons (met_bool e4) (Met.cons hw Met.nil)))))) safeB rfl rfl rfl (hO _) fun g' => .inl ⟨rfl, ps.length - (i + 1), by omega, i + 1, g', by omega, rfl, ?_, rfl⟩
                intro j hj q hq
                rcases Nat.lt_succ_iff_lt_or_eq.1 hj with h | h
                · exact hgood j h q hq
                · subst h
                  rw [hp] at hq; cases hq
                  simp [bad, e1, e2, e3, e4]
  · rintro st (⟨-, g, rfl, hf⟩ | ⟨h, -⟩)
    · refine FRwp.piece none1_ok follows 1 _ _ _ _ (run7 o ps.length c a b d e g) Met.nil safe7 rfl rfl rfl (hO _) fun g' => ⟨.inr rfl, rfl, ?_⟩
      rw [hf]
      exact ret0 o _ g'
    · cases h
  · rintro x st hne (⟨h, -⟩ | ⟨rfl, g, rfl, hf⟩)
    · exact absurd h hne
    · refine ⟨.inr rfl, rfl, ?_⟩
      rw [hf]
      exact ret0 o _ g
/-- The row that is nil. -/
theorem runN (a b d e : Int) (hb : Blk) : (exec Tryz.prog none1 20 (.seq c0 (.seq (.seq c1 (.block 0 (.loop cb))) c7)) ⟨tmsOf [frameV a b d e (.slice none 0 0)] 0 .leaf, heapOf [hb, .dead] hp0, []⟩).map (look2 0 [] [2]) = some (.ret, [], [(2, .bool true)], true) := by kernel_rfl
end Go.Proofs.YtdnmcelmblgpbaaGreat.PnA
