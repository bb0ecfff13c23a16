/- Functions with loops, told with memory: pieces with claims; the whole function. -/
import Derived.Test.YtgeoommlmddgpaaAi33
set_option linter.unusedVariables false
set_option linter.unusedSimpArgs false
namespace Go.Proofs.Ytgeoommlmddgpaa.AI
open Go Go.RowKit

/-! ### 1. Blocks that are what they are under every numbering that keeps the first ones -/
def Fixed (p : Nat) (o : Blk) : Prop := niceBlk o = true ∧ ∀ K : List Nat, (∀ i, i < p → rho K i = i) → renBlk K o = o
def fixB (p : Nat) (K : List Nat) : Bool := (List.range p).all fun i => Nat.beq (rho K i) i
theorem fixB_ok {p : Nat} {K : List Nat} (h : fixB p K = true) : ∀ i, i < p → rho K i = i := fun i hi =>
  Nat.eq_of_beq_eq_true (List.all_eq_true.1 h i (List.mem_range.2 hi))
/-- What is seen behind a piece: the first blocks as they are, the others under new numbers. -/
def look2 (p : Nat) (K : List Nat) (Ts : List Nat) (r : Exit × St) : Exit × List Blk × List (Nat × Value) × Bool :=
  (r.1, (K.take p).map (fun b => (r.2.hp.get b).getD .dead) ++ (K.drop p).map (fun b => renBlk K ((r.2.hp.get b).getD .dead)), Ts.map fun t => (t, ren2 K (r.2.tget t)),
    (K.all fun b => match r.2.hp.get b with | some _ => true | none => false) && ((K.drop p).all fun b => niceBlk ((r.2.hp.get b).getD .dead)) && (Ts.all fun t => nice2 (r.2.tget t)) && r.2.df.isEmpty)

section
variable {P : Program} {N : Nat} {W : Base}
/-- A frame's canonical state. -/
def stOf (N : Nat) (g : Nat → Value) (L : List (Nat × Value)) (O : List Blk) : St := ⟨mkT (frame g L) N, heapOf (O ++ [.dead]) hp0, []⟩
theorem FRwp.piece {call : CallF} (hc : CallOk P call) (hm : P.follows .mixedOrders = true) {n : Nat} {c : Code} {cl : List (Tmp × Value)} {st : St} {e : Exit} {q : List Obl} {Q : Exit → St → Prop} (p : Nat) (K Ts : List Nat) (O : List Blk) (L : List (Nat × Value))
    (he : (execQ P call cl n c st).map (fun r => (look2 p K Ts (r.1, r.2.1), r.2.2)) = some ((e, O, L, true), q)) (hq : Met q) (hs : codeSafe P N c = true) (hK : nodupB K = true) (hF : fixB p K = true) (hT : Ts.all (fun t => Nat.blt t N) = true)
    (hO : ∀ i, i < p → ∀ o, O[i]? = some o → Fixed p o) (h : ∀ g, Q e (stOf N g L O)) : FRwp P N W c st Q := by
  obtain ⟨⟨e', st', q'⟩, h1, h2⟩ := Option.map_eq_some_iff.1 he
  simp only [look2, Prod.mk.injEq] at h2
  obtain ⟨⟨rfl, rfl, rfl, h5⟩, rfl⟩ := h2
  obtain ⟨h5, h7⟩ := Bool.and_eq_true_iff.1 h5
  obtain ⟨h5, h6⟩ := Bool.and_eq_true_iff.1 h5
  obtain ⟨h3, h4⟩ := Bool.and_eq_true_iff.1 h5
  intro a w m f
  refine wp_mono (segQ hc hm h1 hq hs f) fun e2 a' w' hh => ?_
  obtain ⟨rfl, m', f'⟩ := hh
  have hlen : ((K.take p).map (fun b => (st'.hp.get b).getD .dead) ++ (K.drop p).map (fun b => renBlk K ((st'.hp.get b).getD .dead))).length = K.length := by
    simp; omega
  have hget : ∀ (i b : Nat), K[i]? = some b → ∃ o, st'.hp.get b = some o := fun i b hi => by
    have := List.all_eq_true.1 h3 b (List.mem_of_getElem? hi)
    cases hg : st'.hp.get b with
    | none => rw [hg] at this; cases this
    | some o => exact ⟨o, rfl⟩
  obtain ⟨g, m2, f2⟩ := f'.canon2 K ((K.take p).map (fun b => (st'.hp.get b).getD .dead) ++ (K.drop p).map (fun b => renBlk K ((st'.hp.get b).getD .dead))) (Ts.map fun t => (t, ren2 K (st'.tget t))) (nodupB_ok hK) hlen (fun i b o2 hi ho => by
      obtain ⟨o, hg⟩ := hget i b hi
      refine ⟨o, hg, ?_⟩
      have hiK : i < K.length := (List.getElem?_eq_some_iff.1 hi).1
      by_cases hip : i < p
      · have e1 : ((K.take p).map (fun b => (st'.hp.get b).getD .dead) ++ (K.drop p).map (fun b => renBlk K ((st'.hp.get b).getD .dead)))[i]? = some o := by
          rw [List.getElem?_append_left (by simp; omega), List.getElem?_map, List.getElem?_take, if_pos hip, hi]
          simp [hg]
        rw [e1] at ho
        have e3 : o = o2 := by simpa using ho
        subst e3
        obtain ⟨k1, k2⟩ := hO i hip o e1
        exact ⟨(k2 K (fixB_ok hF)).symm, k1⟩
      · have hmin : min p K.length = p := by omega
        rw [List.getElem?_append_right (by simp; omega)] at ho
        simp only [List.length_map, List.length_take, hmin, List.getElem?_map, List.getElem?_drop] at ho
        rw [show p + (i - p) = i by omega, hi] at ho
        simp only [Option.map_some, Option.some.injEq, hg, Option.getD_some] at ho
        refine ⟨ho.symm, ?_⟩
        have hbm : b ∈ K.drop p := List.mem_of_getElem? (by rw [List.getElem?_drop, show p + (i - p) = i by omega]; exact hi)
        have := List.all_eq_true.1 h4 b hbm
        simpa [hg] using this) (fun x hx => by
      obtain ⟨t, ht, rfl⟩ := List.mem_map.1 hx
      exact ⟨by have := List.all_eq_true.1 hT t ht; simpa [Nat.blt_eq] using this, List.all_eq_true.1 h6 t ht, rfl⟩) (List.isEmpty_iff.1 h7)
  exact ⟨_, m2, f2, h g⟩

/-! ### 2. A function, told with memory by its own frame -/
/-- The blocks that a call looks at, as its own frame has them: read-only. -/
def roBlk : Blk → Blk
  | .cells ty cs _ => .cells ty cs true
  | .map es cl _ => .map es cl true
  | .dead => .dead
def startOk : Blk → Bool
  | .cells _ cs ro => cs.all ok2 && (ro || !keysBox cs)
  | .map es _ _ => es.all fun e => ok2 e.2.1
  | .dead => true
def startHp (K : List Nat) (hp : Hp) : Hp := heapOf (K.map (fun b => roBlk (shBlk K 0 ((hp.get b).getD .dead))) ++ [.dead]) hp0
theorem heapOf0_get (O : List Blk) (b : Nat) : (heapOf O hp0).get b = O[b]? := by
  rw [heapOf_get]
  simp only [hp0, Nat.not_lt_zero, if_false, Nat.sub_zero]
  cases O[b]? <;> rfl
theorem start_sim {m : BM} {h : HG} {w : World} {hp : Hp} {K : List Nat} (s : Sim m (ovr hp h) w) (hk : hp.ok) (hK : nodupB K = true) (hok : ∀ b ∈ K, ∃ o, hp.get b = some o ∧ startOk o = true) :
    Sim (canM m K) (startHp K hp).get w ∧ (∀ b, rw? (startHp K hp).get b = false) ∧ PT m (ovr hp h) (canM m K) (startHp K hp).get K 0 := by
  have hget : ∀ b, (startHp K hp).get b = (K.map (fun b => roBlk (shBlk K 0 ((hp.get b).getD .dead))) ++ [Blk.dead])[b]? := fun b => heapOf0_get _ b
  have hD : (startHp K hp).get K.length = some .dead := by rw [hget]; simp
  have hblk : ∀ i b, K[i]? = some b → ∃ o, ovr hp h b = some o ∧ startOk o = true ∧ (startHp K hp).get i = some (roBlk (shBlk K 0 o)) ∧ canM m K i = m b := by
    intro i b hi
    obtain ⟨o, h1, h2⟩ := hok b (List.mem_of_getElem? hi)
    refine ⟨o, ovr_sub hk h b o h1, h2, ?_, by unfold canM; rw [hi]⟩
    have hlt : i < K.length := (List.getElem?_eq_some_iff.1 hi).1
    rw [hget, List.getElem?_append_left (by simpa using hlt), List.getElem?_map, hi]
    simp [h1]
  have pt : PT m (ovr hp h) (canM m K) (startHp K hp).get K 0 := by
    intro b Q hq
    simp only [Nat.zero_add]
    unfold rho
    cases hi : idxOf b K 0 with
    | none => exact .inl hD
    | some j =>
      obtain ⟨k, rfl, hk⟩ := idxOf_some hi
      simp only [Nat.zero_add, Option.getD_some]
      obtain ⟨o, h1, _, h2, h3⟩ := hblk k b hk
      rcases hq with hq | hq
      · rw [hq] at h1; cases h1
        exact .inl h2
      · exact .inr ⟨hq, h3⟩
  have hro : ∀ b, rw? (startHp K hp).get b = false := by
    intro b
    unfold rw?
    rw [hget]
    cases e : (K.map (fun b => roBlk (shBlk K 0 ((hp.get b).getD .dead))) ++ [Blk.dead])[b]? with
    | none => rfl
    | some o =>
      have hm := List.mem_of_getElem? e
      rcases List.mem_append.1 hm with hm | hm
      · obtain ⟨x, _, rfl⟩ := List.mem_map.1 hm
        generalize shBlk K 0 ((hp.get x).getD .dead) = y
        cases y <;> rfl
      · simp at hm; subst hm; rfl
  refine ⟨⟨fun i x hx => ?_, fun b b' x x' _ _ hr => by rw [hro b] at hr; cases hr⟩, hro, pt⟩
  unfold canM at hx
  split at hx
  · rename_i b hb
    obtain ⟨o, h1, h2, h3, _⟩ := hblk i b hb
    refine ⟨_, h3, ?_⟩
    obtain ⟨o', ho', hbr⟩ := s.dom b x hx
    rw [h1] at ho'; cases ho'
    cases o with
    | cells ty cs ro =>
      obtain ⟨cc, fr, g1, g2, g3, g4, g5⟩ := hbr
      obtain ⟨k1, k2⟩ := Bool.and_eq_true_iff.1 h2
      refine ⟨cc, fr, g1, by simpa using g2, g3, fun i v v' q1 q2 => ?_, (fun hr => by cases hr), fun _ hk => ?_⟩
      · simp only [List.getElem?_map, Option.map_eq_some_iff] at q1
        obtain ⟨z, hz, rfl⟩ := q1
        exact pt.two (g4 i z v' hz q2) (List.all_eq_true.1 k1 z (List.mem_of_getElem? hz))
      · have hk' := keysBox_map sh2_map hk
        rw [hk'] at k2
        have hr : ro = true := by simpa using k2
        exact g5.2 hr hk'
    | map es cl ro =>
      obtain ⟨fs, g1, g2, g3⟩ := hbr
      refine ⟨fs, g1, by simpa using g2, fun i e ff q1 q2 => ?_⟩
      simp only [List.getElem?_map, Option.map_eq_some_iff] at q1
      obtain ⟨z, hz, rfl⟩ := q1
      obtain ⟨p1, p2, p3, p4⟩ := g3 i z ff hz q2
      exact ⟨p1, p2, pt.two p3 (List.all_eq_true.1 h2 z (List.mem_of_getElem? hz)), p4⟩
    | dead => trivial
  · cases hx

def rwB : Blk → Bool
  | .cells _ _ ro => !ro
  | .map _ _ ro => !ro
  | .dead => false
theorem scan_goal (hm : P.follows .mixedOrders = true) {f : FuncId} {fn : Func} {c : Code} {g : HeapFn} (hf : P.funcs[f]? = some fn) (hb : fn.body = some c) (hnm : (fn.name == "runtime.NumGoroutine") = false)
    (H : ∀ args hp v hp', g args hp = some (v, hp') → hp.ok → ∃ K0 K : List Nat, ∃ O : List Blk, hp' = heapOf (O ++ [.dead]) hp ∧ O.length = K.length ∧ nodupB K0 = true ∧ nodupB K = true ∧ (∀ b ∈ K0, ∃ o, hp.get b = some o ∧ startOk o = true) ∧ args.all ok3 = true ∧ args.length ≤ fn.ntmps ∧
      ∀ W, FRwp P fn.ntmps W c ⟨tmsOf (args.map (sh3 K0 0)) 0 .leaf, startHp K0 hp, []⟩ fun e st => (e = .normal ∨ e = .ret) ∧ st.df = [] ∧ ∃ v0, retVal P fn st = some v0 ∧ ok3 v0 = true ∧
        (∀ b ∈ K, ∃ o, st.hp.get b = some o ∧ okBlk o = true ∧ rwB o = true) ∧ v = sh3 K hp.sz v0 ∧ O = outOf K hp.sz st.hp) : CallGoal P f g := by
  intro args hp v hp' he hk
  obtain ⟨K0, K, O, rfl, hlen, hK0, hK, hok, hargs, hn, hrun⟩ := H args hp v hp' he hk
  refine ⟨heapOf_ok _ _ hk, by rw [heapOf_sz]; omega, fun m h w args' hfr s ra => .inr ⟨run_callFunc hf (by rw [hb]; rfl) hnm, ?_⟩⟩
  obtain ⟨s0, ro0, pt⟩ := start_sim s hk hK0 hok
  refine (fn_of (R := fun v0 st => ok3 v0 = true ∧ (∀ b ∈ K, ∃ o, st.hp.get b = some o ∧ okBlk o = true ∧ rwB o = true) ∧ v = sh3 K hp.sz v0 ∧ O = outOf K hp.sz st.hp) hf hb (by simpa using hn) (heapOf_ok _ _ hp0_ok) s0 ro0 (pt.threes ra hargs) (by
    refine FRwp.mono (hrun (Base.shut w)) fun e st q => ?_
    obtain ⟨q1, q2, v0, q3, q4, q5, q6, q7⟩ := q
    exact ⟨q1, q2, v0, q3, q4, q5, q6, q7⟩)).mono fun e w' hh => ?_
  obtain ⟨v', v0, st', m', rfl, ⟨q4, q5, q6, q7⟩, rv, hs', _, hbel, hown⟩ := hh
  subst q6
  subst q7
  have hj := join_go (K := K) s hbel hs' hK (fun b hb => by
      obtain ⟨o, h1, h2, _⟩ := q5 b hb; exact ⟨o, h1, h2⟩) (fun b hb x hx => hown b x hx (by
      obtain ⟨o, h1, _, h3⟩ := q5 b hb
      unfold rw?; rw [h1]; cases o <;> exact h3)) (fun b h1 h2 => hfr b h1 (by rw [heapOf_sz]; simp [hlen]; omega)) rv q4
  exact ⟨v', rfl, _, hj.1, hj.2⟩
end
end Go.Proofs.Ytgeoommlmddgpaa.AI
