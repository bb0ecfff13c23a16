/- Soundness, 15: code; calls. -/
import Derived.Test.YtjecepaaalfilaaAi18
set_option linter.unusedVariables false
set_option linter.unusedSimpArgs false
namespace Go.Proofs.Ytjecepaaalfilaa.AI
open Go

section
variable {P : Program} {call : CallF}

theorem region_sound (hc : CallOk P call) (hm : P.follows .mixedOrders = true) {ops : Array Oper} {n id : Nat} {draw : Bool} {st st' : St} (hok : ops.toList.all (okOp n) = true) (hs : draw = true → regSafe P ops = true)
    (he : aRegion P call ops draw st = some st') (hk : st.hp.ok) : RegionGoal P n id ops draw st st' := by
  cases draw with
  | false => exact region_plain hc hok he hk
  | true => exact region_draw hc hm hok (hs rfl) he hk

/-- A piece of code: what it comes to. -/
def Ends (P : Program) (N : Nat) (m : BM) (h : HG) (w : World) (st : St) (e : Exit) (st' : St) : Exit → Act → World → Prop :=
  fun e' a' w' => e' = e ∧ ∃ m', Go1 m (ovr st.hp h) w m' (ovr st'.hp h) w' ∧ Rel N m' h w' st' a'
def wpR (P : Program) (n : Nat) (c : Code) (Q : Exit → Act → World → Prop) (a : Act) (w : World) : Prop :=
  match c with
  | .loop b => Code.rounds P b Q n a w
  | c => c.wp P Q a w
theorem wpR_wp {n : Nat} {c : Code} {Q : Exit → Act → World → Prop} {a : Act} {w : World} (h : wpR P n c Q a w) : c.wp P Q a w := by
  cases c <;> first | exact h | exact wp_loop_rounds n h
def plainExit : Exit → Prop
  | .normal | .ret | .exit _ => True
  | _ => False
def CodeGoal (P : Program) (N n : Nat) (c : Code) (st : St) (e : Exit) (st' : St) : Prop :=
  plainExit e ∧ st'.hp.ok ∧ st.hp.sz ≤ st'.hp.sz ∧ ∀ (m : BM) (h : HG) (w : World) (a : Act), (∀ b, st.hp.sz ≤ b → b < st'.hp.sz → h b = none) → Rel N m h w st a → wpR P n c (Ends P N m h w st e st') a w

theorem Ends.trans {N : Nat} {m m1 : BM} {h : HG} {w w1 : World} {st st1 st' : St} {e : Exit} (g : Go1 m (ovr st.hp h) w m1 (ovr st1.hp h) w1) {e' : Exit} {a' : Act} {w' : World} (q : Ends P N m1 h w1 st1 e st' e' a' w') : Ends P N m h w st e st' e' a' w' := by
  obtain ⟨q1, m', q2, q3⟩ := q
  exact ⟨q1, m', g.trans q2, q3⟩

theorem rounds_mono {c : Code} {Q Q' : Exit → Act → World → Prop} (hq : ∀ e a w, Q e a w → Q' e a w) : ∀ n a w, Code.rounds P c Q n a w → Code.rounds P c Q' n a w
  | 0, _, _, h => h.elim
  | n + 1, a, w, h => by
    rw [rounds_succ] at h ⊢
    refine wp_mono h fun e a' w' q => ?_
    cases e with
    | normal => exact rounds_mono hq n a' w' q
    | _ => exact hq _ _ _ q

theorem exec_sound (hc : CallOk P call) (hm : P.follows .mixedOrders = true) {N : Nat} : ∀ (n : Nat) (c : Code) (st : St) (e : Exit) (st' : St), exec P call n c st = some (e, st') → codeSafe P N c = true → st.hp.ok → CodeGoal P N n c st e st'
  | 0, c, st, e, st', he, _, _ => by cases he
  | n + 1, c, st, e, st', he, hs, hk => by
    cases c with
    | skip =>
      cases he
      exact ⟨trivial, hk, Nat.le_refl _, fun m h w a hf r => wp_skip ⟨rfl, m, Go1.refl r.sim, r⟩⟩
    | label l =>
      cases he
      exact ⟨trivial, hk, Nat.le_refl _, fun m h w a hf r => wp_label ⟨rfl, m, Go1.refl r.sim, r⟩⟩
    | region id ops draw =>
      simp only [exec] at he
      split at he
      · rename_i st1 hr
        cases he
        simp only [codeSafe, Bool.and_eq_true, Bool.or_eq_true, Bool.not_eq_true'] at hs
        obtain ⟨k1, k2, k3⟩ := region_sound (id := id) hc hm hs.1 (fun hd => by rcases hs.2 with q | q; rw [hd] at q; cases q; exact q) hr hk
        exact ⟨trivial, k1, k2, fun m h w a hf r => k3 m h w a hf r _ fun m' w' a' g r' => ⟨rfl, m', g, r'⟩⟩
      · cases he
    | seq x y =>
      simp only [exec] at he
      simp only [codeSafe, Bool.and_eq_true] at hs
      split at he
      · rename_i st1 hx
        obtain ⟨_, k1, k2, k3⟩ := exec_sound hc hm n x st .normal st1 hx hs.1 hk
        obtain ⟨j0, j1, j2, j3⟩ := exec_sound hc hm n y st1 e st' he hs.2 k1
        refine ⟨j0, j1, Nat.le_trans k2 j2, fun m h w a hf r => wp_seq ?_⟩
        refine wp_mono (wpR_wp (k3 m h w a (fun b h1 h2 => hf b h1 (Nat.lt_of_lt_of_le h2 j2)) r)) fun e' a' w' q => ?_
        obtain ⟨rfl, m', g, r'⟩ := q
        exact wp_mono (wpR_wp (j3 m' h w' a' (fun b h1 h2 => hf b (Nat.le_trans k2 h1) h2) r')) fun e2 a2 w2 q2 => Ends.trans g q2
      · rename_i r hne
        obtain ⟨k0, k1, k2, k3⟩ := exec_sound hc hm n x st e st' he hs.1 hk
        refine ⟨k0, k1, k2, fun m h w a hf r => wp_seq ?_⟩
        refine wp_mono (wpR_wp (k3 m h w a hf r)) fun e' a' w' q => ?_
        cases e' with
        | normal => obtain ⟨rfl, _⟩ := q; exact absurd he (hne _)
        | _ => exact q
    | cond x y z =>
      simp only [exec] at he
      simp only [codeSafe, Bool.and_eq_true] at hs
      split at he
      · rename_i hx
        obtain ⟨k0, k1, k2, k3⟩ := exec_sound hc hm n y st e st' he hs.1.2 hk
        refine ⟨k0, k1, k2, fun m h w a hf r => wp_cond_true ?_ (wpR_wp (k3 m h w a hf r))⟩
        have := r.tm.eval hs.1.1
        rw [hx] at this
        exact this.of_bool
      · rename_i hx
        obtain ⟨k0, k1, k2, k3⟩ := exec_sound hc hm n z st e st' he hs.2 hk
        refine ⟨k0, k1, k2, fun m h w a hf r => wp_cond_false ?_ (wpR_wp (k3 m h w a hf r))⟩
        have := r.tm.eval hs.1.1
        rw [hx] at this
        exact this.of_bool
      · cases he
    | block id b =>
      simp only [exec] at he
      simp only [codeSafe] at hs
      split at he
      · rename_i i st1 hb
        obtain ⟨k0, k1, k2, k3⟩ := exec_sound hc hm n b st _ st1 hb hs hk
        split at he
        · rename_i hi
          cases he
          have hi' : i = id := Nat.eq_of_beq_eq_true hi
          subst hi'
          refine ⟨trivial, k1, k2, fun m h w a hf r => wp_block ?_⟩
          refine wp_mono (wpR_wp (k3 m h w a hf r)) fun e' a' w' q => ?_
          obtain ⟨rfl, q2⟩ := q
          show (if i = i then _ else _)
          rw [if_pos rfl]; exact ⟨rfl, q2⟩
        · rename_i hi
          cases he
          have hi' : i ≠ id := fun q => by rw [q, Nat.beq_refl] at hi; cases hi
          refine ⟨trivial, k1, k2, fun m h w a hf r => wp_block ?_⟩
          refine wp_mono (wpR_wp (k3 m h w a hf r)) fun e' a' w' q => ?_
          obtain ⟨rfl, q2⟩ := q
          show (if i = id then _ else _)
          rw [if_neg hi']; exact ⟨rfl, q2⟩
      · rename_i r hne
        obtain ⟨k0, k1, k2, k3⟩ := exec_sound hc hm n b st e st' he hs hk
        refine ⟨k0, k1, k2, fun m h w a hf r => wp_block ?_⟩
        refine wp_mono (wpR_wp (k3 m h w a hf r)) fun e' a' w' q => ?_
        cases e' with
        | exit i => obtain ⟨rfl, _⟩ := q; exact absurd he (hne _ _)
        | _ => exact q
    | loop b =>
      simp only [exec] at he
      simp only [codeSafe] at hs
      split at he
      · rename_i st1 hb
        obtain ⟨_, k1, k2, k3⟩ := exec_sound hc hm n b st _ st1 hb hs hk
        obtain ⟨j0, j1, j2, j3⟩ := exec_sound hc hm n (.loop b) st1 e st' he (by simpa [codeSafe] using hs) k1
        refine ⟨j0, j1, Nat.le_trans k2 j2, fun m h w a hf r => ?_⟩
        show Code.rounds P b _ (n + 1) a w
        rw [rounds_succ]
        refine wp_mono (wpR_wp (k3 m h w a (fun b h1 h2 => hf b h1 (Nat.lt_of_lt_of_le h2 j2)) r)) fun e' a' w' q => ?_
        obtain ⟨rfl, m', g, r'⟩ := q
        exact rounds_mono (fun e2 a2 w2 q2 => Ends.trans g q2) n a' w' (j3 m' h w' a' (fun b h1 h2 => hf b (Nat.le_trans k2 h1) h2) r')
      · rename_i r hne
        obtain ⟨k0, k1, k2, k3⟩ := exec_sound hc hm n b st e st' he hs hk
        refine ⟨k0, k1, k2, fun m h w a hf r => ?_⟩
        show Code.rounds P b _ (n + 1) a w
        rw [rounds_succ]
        refine wp_mono (wpR_wp (k3 m h w a hf r)) fun e' a' w' q => ?_
        cases e' with
        | normal => obtain ⟨rfl, _⟩ := q; exact absurd he (hne _)
        | _ => exact q
    | scope b =>
      simp only [exec] at he
      simp only [codeSafe] at hs
      obtain ⟨k0, k1, k2, k3⟩ := exec_sound hc hm n b st e st' he hs hk
      refine ⟨k0, k1, k2, fun m h w a hf r => wp_scope_straight ?_⟩
      refine wp_mono (wpR_wp (k3 m h w a hf r)) fun e' a' w' q => ?_
      cases e' with
      | goto l => obtain ⟨rfl, _⟩ := q; exact k0
      | _ => exact q
    | exit id =>
      cases he
      exact ⟨trivial, hk, Nat.le_refl _, fun m h w a hf r => wp_exit ⟨rfl, m, Go1.refl r.sim, r⟩⟩
    | ret =>
      cases he
      exact ⟨trivial, hk, Nat.le_refl _, fun m h w a hf r => wp_ret ⟨rfl, m, Go1.refl r.sim, r⟩⟩
    | _ => cases he

/-! ### Results -/
def resS (tmps : Array Value) : ResultVar → Sem Value
  | .tmp t => pure (tmps.getD t undef)
  | .cell x t => do loadVar t (← asAddr (tmps.getD x undef))
theorem results_eq (fn : Func) (tmps : Array Value) : results fn tmps = (do
    let vs ← fn.results.mapM (resS tmps)
    pure (if h : vs.size = 1 then vs[0] else .tuple vs)) := by
  have : resS tmps = (fun
    | .tmp t => pure (tmps.getD t undef)
    | .cell a t => do loadVar t (← asAddr (tmps.getD a undef)) : ResultVar → Sem Value) := by funext r; cases r <;> rfl
  unfold results
  rw [this]
  congr 2
theorem resVar_sound {st : St} {a : Act} {N : Nat} {m : BM} {h : HG} {w : World} (hk : st.hp.ok) (s : Sim m (ovr st.hp h) w) (t : TRel N m (ovr st.hp h) st a) {r : ResultVar} {v : Value} (he : resVar P st r = some v) :
    ∃ v', (resS a.tmps r).run P w = .ok v' w ∧ VRel m (ovr st.hp h) v v' := by
  cases r with
  | tmp x => cases he; exact ⟨_, rfl, t.tm x⟩
  | cell x ty =>
    simp only [resVar] at he
    have hx := t.tm x
    obtain ⟨v', h1, h2⟩ := aLoad_sound s (aLoad_mono (ovr_sub hk h) he) hx
    refine ⟨v', ?_, h2⟩
    unfold aLoad at he
    split at he
    · rename_i ad hq
      rw [hq] at hx
      obtain ⟨b, off, r, off', e1, e2, _⟩ := hx.of_ptr
      rw [e2] at h1
      simp only [resS, e2]
      simpa [Instr.loadAt, Instr.sureAddr, asAddr] using h1
    · cases he

theorem resVars_sound {st : St} {a : Act} {N : Nat} {m : BM} {h : HG} {w : World} (hk : st.hp.ok) (s : Sim m (ovr st.hp h) w) (t : TRel N m (ovr st.hp h) st a) : ∀ {rs : List ResultVar} {vs : List Value}, resVars P st rs = some vs →
    ∃ vs' : List Value, (rs.mapM (resS a.tmps)).run P w = .ok vs' w ∧ VRelL m (ovr st.hp h) vs vs'
  | [], vs, he => by cases he; exact ⟨[], rfl, .nil⟩
  | r :: rs, vs, he => by
    simp only [resVars] at he
    split at he
    · rename_i v us hv hus
      cases he
      obtain ⟨v', h1, h2⟩ := resVar_sound hk s t hv
      obtain ⟨us', h3, h4⟩ := resVars_sound hk s t hus
      refine ⟨v' :: us', ?_, .cons h2 h4⟩
      rw [List.mapM_cons]
      simp only [Sem.run_bind, h1, Result.andThen_ok, h3, Sem.run_pure]
    · cases he

theorem retVal_sound {fn : Func} {st : St} {a : Act} {N : Nat} {m : BM} {h : HG} {w : World} (hk : st.hp.ok) (s : Sim m (ovr st.hp h) w) (t : TRel N m (ovr st.hp h) st a) {v : Value} (he : retVal P fn st = some v) :
    ∃ v', (results fn a.tmps).run P w = .ok v' w ∧ VRel m (ovr st.hp h) v v' := by
  unfold retVal at he
  have key : ∀ vs, resVars P st fn.results.toList = some vs → ∃ vs' : List Value, (results fn a.tmps).run P w = .ok (if h : vs'.toArray.size = 1 then vs'.toArray[0] else .tuple vs'.toArray) w ∧ VRelL m (ovr st.hp h) vs vs' := by
    intro vs hvs
    obtain ⟨vs', h1, h2⟩ := resVars_sound hk s t hvs
    refine ⟨vs', ?_, h2⟩
    rw [results_eq, Array.mapM_eq_mapM_toList]
    simp only [Sem.run_bind, Sem.run_map]
    rw [h1]
    rfl
  split at he
  · rename_i u hvs
    cases he
    obtain ⟨vs', h1, h2⟩ := key _ hvs
    obtain ⟨u', us', e, r1, r2⟩ := h2.of_cons
    have := r2.of_nil
    subst this; subst e
    exact ⟨u', by simpa using h1, r1⟩
  · rename_i vs hne hvs
    cases he
    obtain ⟨vs', h1, h2⟩ := key _ hvs
    refine ⟨.tuple vs'.toArray, ?_, .tuple h2.toArray.1 h2.toArray.2⟩
    rw [h1]
    congr 1
    rw [dif_neg ?_]
    intro hl
    have hlen : vs.length = 1 := by have := h2.1; simp at hl; omega
    obtain ⟨x, rfl⟩ := List.length_eq_one_iff.1 hlen
    exact hne x rfl
  · cases he
end
end Go.Proofs.Ytjecepaaalfilaa.AI
