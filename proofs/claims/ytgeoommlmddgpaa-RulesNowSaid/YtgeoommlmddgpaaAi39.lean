/- Functions that write their caller's rows: two rows of scalars are handed over, the first one perhaps with room behind it; behind the call they are given up. -/
import Derived.Test.YtgeoommlmddgpaaAi38
set_option linter.unusedVariables false
set_option linter.unusedSimpArgs false
namespace Go.Proofs.Ytgeoommlmddgpaa.AI
open Go Go.RowKit

theorem inert_any {m m' : BM} {h h' : HG} {v v' : Value} (hi : inert v = true) (r : VRel m h v v') : VRel m' h' v v' := by
  cases r with
  | flat hf => exact .flat hf
  | blind h1 => exact .blind h1
  | blind0 => exact .blind0
  | junk h1 => exact .junk h1
  | _ => simp [inert, AI.flat] at hi
/-- What may be said of a cell that is not known. -/
def junkOf : Value → Value
  | .bool b => .bool b
  | _ => .chan none
theorem junkOf_rel {m : BM} {h : HG} (v : Value) : VRel m h (junkOf v) v := by
  unfold junkOf
  split
  · exact .flat rfl
  · rename_i hn; exact .junk fun b e => hn b e
theorem junkOf_inert (v : Value) : inert (junkOf v) = true := by
  unfold junkOf; split <;> rfl
theorem killL_ok {D : List Nat} {hp : Hp} (hk : hp.ok) (hD : ∀ b ∈ D, b < hp.sz) : (killL D hp).ok := fun b hb => by
  rw [killL_sz] at hb
  rw [killL_get, if_neg (fun h => by have := hD b h; omega)]
  exact hk b hb
section
variable {P : Program}
theorem lt_of_get {hp : Hp} (hk : hp.ok) {b : Nat} {o : Blk} (h : hp.get b = some o) : b < hp.sz := by
  rcases Nat.lt_or_ge b hp.sz with h1 | h1
  · exact h1
  · rw [hk b h1] at h; cases h
/-- Two rows of scalars that are the caller's, at a frame's beginning: the first one may go on behind what is known. -/
theorem start2_sim {m : BM} {h : HG} {w : World} {hp : Hp} (s : Sim m (ovr hp h) w) (hk : hp.ok) {b b2 : Nat} (hne : b ≠ b2) {t1 t2 : TypeId} {L X : List Value} {ro : Bool} (h1 : hp.get b = some (.cells t1 L false)) (h2 : hp.get b2 = some (.cells t2 X ro)) (i1 : L.all inert = true) (i2 : X.all inert = true)
    {r δ E : Nat} (hm : m b = some (r, δ, E)) (k : Nat) (hE : δ + L.length + k ≤ E) :
    ∃ J : List Value, J.length = k ∧ J.all inert = true ∧ Sim (canM m [b, b2]) (heapOf [.cells t1 (L ++ J) false, .cells t2 X ro, .dead] hp0).get w := by
  have g1 := ovr_sub hk h b _ h1
  have g2 := ovr_sub hk h b2 _ h2
  obtain ⟨o', ho', hbr⟩ := s.dom b _ hm
  rw [g1] at ho'; cases ho'
  obtain ⟨c, fr, q1, q2, q3, q4, q5⟩ := hbr
  dsimp only at q1 q2 q3 q4
  refine ⟨((c.toList.drop (δ + L.length)).take k).map junkOf, by simp; omega, ?_, ?_⟩
  · rw [List.all_map]
    exact List.all_eq_true.2 fun v _ => junkOf_inert v
  generalize hJ : ((c.toList.drop (δ + L.length)).take k).map junkOf = J
  have hJl : J.length = k := by rw [← hJ]; simp; omega
  have e0 : (heapOf [.cells t1 (L ++ J) false, .cells t2 X ro, .dead] hp0).get 0 = some (.cells t1 (L ++ J) false) := by rw [heapOf0_get]; rfl
  have e1 : (heapOf [.cells t1 (L ++ J) false, .cells t2 X ro, .dead] hp0).get 1 = some (.cells t2 X ro) := by rw [heapOf0_get]; rfl
  have hrw : rw? (ovr hp h) b = true := by unfold rw?; rw [g1]; rfl
  have hl1 : live? (ovr hp h) b = true := by unfold live?; rw [g1]
  have hl2 : live? (ovr hp h) b2 = true := by unfold live?; rw [g2]
  have cM : ∀ i x, canM m [b, b2] i = some x → (i = 0 ∧ m b = some x) ∨ (i = 1 ∧ m b2 = some x) := by
    intro i x hx
    unfold canM at hx
    match i with
    | 0 => exact .inl ⟨rfl, hx⟩
    | 1 => exact .inr ⟨rfl, hx⟩
    | i + 2 => simp at hx
  refine ⟨fun i x hx => ?_, fun i i' x x' hx hx' hr hl hxx => ?_⟩
  · rcases cM i x hx with ⟨rfl, hy⟩ | ⟨rfl, hy⟩
    · rw [hm] at hy; cases hy
      refine ⟨_, e0, c, fr, q1, by simp [hJl]; omega, q3, fun i v v' p1 p2 => ?_, ⟨fun _ => q5.1 rfl, (fun hr => by cases hr)⟩⟩
      dsimp only at p2
      by_cases hi : i < L.length
      · rw [List.getElem?_append_left hi] at p1
        exact inert_any (List.all_eq_true.1 i1 v (List.mem_of_getElem? p1)) (q4 i v v' p1 p2)
      · rw [List.getElem?_append_right (by omega)] at p1
        rw [← hJ, List.getElem?_map, List.getElem?_take] at p1
        split at p1
        · rw [List.getElem?_drop, show δ + L.length + (i - L.length) = δ + i by omega] at p1
          rw [Array.getElem?_toList, p2] at p1
          cases p1
          exact junkOf_rel v'
        · cases p1
    · obtain ⟨o', ho', hbr⟩ := s.dom b2 _ hy
      rw [g2] at ho'; cases ho'
      obtain ⟨c2, fr2, k1, k2, k3, k4, k5⟩ := hbr
      refine ⟨_, e1, c2, fr2, k1, k2, k3, fun i v v' p1 p2 => inert_any (List.all_eq_true.1 i2 v (List.mem_of_getElem? p1)) (k4 i v v' p1 p2), k5⟩
  · rcases cM i x hx with ⟨rfl, hy⟩ | ⟨rfl, hy⟩ <;> rcases cM i' x' hx' with ⟨rfl, hy'⟩ | ⟨rfl, hy'⟩
    · rfl
    · exact absurd (s.inj b b2 x x' hy hy' hrw hl2 hxx) hne
    · exact absurd (s.inj b b2 x' x hy' hy hrw hl2 hxx.symm) hne
    · rfl
theorem kill_goal (hm : P.follows .mixedOrders = true) {f : FuncId} {fn : Func} {c : Code} {g : HeapFn} (hf : P.funcs[f]? = some fn) (hb : fn.body = some c) (hnm : (fn.name == "runtime.NumGoroutine") = false)
    (H : ∀ args hp v hp', g args hp = some (v, hp') → hp.ok → ∃ D : List Nat, ∃ O : List Blk, hp' = heapOf (O ++ [.dead]) (killL D hp) ∧ (∀ b ∈ D, ∃ o, hp.get b = some o ∧ rwB o = true) ∧
      ∀ (m : BM) (h : HG) (w : World) (args' : Array Value), Sim m (ovr hp h) w → VRelL m (ovr hp h) args args'.toList → (∀ b ∈ D, ∃ x, m b = some x) ∧
        ∃ (K : List Nat) (args0 : List Value) (hpS : Hp) (mS : BM), O.length = K.length ∧ nodupB K = true ∧ hpS.ok ∧ Sim mS hpS.get w ∧ (∀ b x, mS b = some x → rw? hpS.get b = true → rowsOf m D x.1) ∧ VRelL mS hpS.get args0 args'.toList ∧ args0.length ≤ fn.ntmps ∧
        ∀ W, FRwp P fn.ntmps W c ⟨tmsOf args0 0 .leaf, hpS, []⟩ fun e st => (e = .normal ∨ e = .ret) ∧ st.df = [] ∧ ∃ v0, retVal P fn st = some v0 ∧ ok3 v0 = true ∧
          (∀ b ∈ K, ∃ o, st.hp.get b = some o ∧ okBlk o = true ∧ rwB o = true) ∧ (∀ m h x, VRel m h (sh3 K hp.sz v0) x → VRel m h v x) ∧ O = outOf K hp.sz st.hp) : CallGoal P f g := by
  intro args hp v hp' he hk
  obtain ⟨D, O, rfl, hD, hrun⟩ := H args hp v hp' he hk
  have hDlt : ∀ b ∈ D, b < hp.sz := fun b hb => by
    obtain ⟨o, ho, _⟩ := hD b hb
    exact lt_of_get hk ho
  refine ⟨heapOf_ok _ _ (killL_ok hk hDlt), by rw [heapOf_sz, killL_sz]; omega, fun m h w args' hfr s ra => .inr ⟨run_callFunc hf (by rw [hb]; rfl) hnm, ?_⟩⟩
  obtain ⟨hDm, K, args0, hpS, mS, hlen, hK, hkS, sS, hown0, rS, hn, hwp⟩ := hrun m h w args' s ra
  refine (fn_ofS (S := rowsOf m D) (R := fun v0 st => ok3 v0 = true ∧ (∀ b ∈ K, ∃ o, st.hp.get b = some o ∧ okBlk o = true ∧ rwB o = true) ∧ (∀ m h x, VRel m h (sh3 K hp.sz v0) x → VRel m h v x) ∧ O = outOf K hp.sz st.hp) hf hb hn hkS sS hown0 rS (by
    refine FRwp.mono (hwp ⟨w, rowsOf m D⟩) fun e st q => ?_
    obtain ⟨q1, q2, v0, q3, q4, q5, q6, q7⟩ := q
    exact ⟨q1, q2, v0, q3, q4, q5, q6, q7⟩)).mono fun e w' hh => ?_
  obtain ⟨v', v0, st', m', rfl, ⟨q4, q5, q6, q7⟩, rv, hs', _, hbel, hown⟩ := hh
  subst q7
  have hj := join_kill (K := K) (D := D) hk s (fun b hb => ⟨hD b hb, hDm b hb⟩) hbel hs' hK (fun b hb => by
      obtain ⟨o, h1, h2, _⟩ := q5 b hb; exact ⟨o, h1, h2⟩) (fun b hb x hx => hown b x hx (by
      obtain ⟨o, h1, _, h3⟩ := q5 b hb
      unfold rw?; rw [h1]; cases o <;> exact h3)) (fun b h1 h2 => hfr b h1 (by rw [heapOf_sz, killL_sz]; simp [outOf]; omega)) rv q4
  exact ⟨v', rfl, _, hj.1, q6 _ _ _ hj.2⟩
end
end Go.Proofs.Ytgeoommlmddgpaa.AI
