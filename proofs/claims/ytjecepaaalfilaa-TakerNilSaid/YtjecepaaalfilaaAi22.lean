/- The abstract interpreter without fuel: what it answers with enough of it. -/
import Derived.Test.YtjecepaaalfilaaAi21
set_option linter.unusedVariables false
set_option linter.unusedSimpArgs false
namespace Go.Proofs.Ytjecepaaalfilaa.AI
open Go

def CLe (c c' : CallF) : Prop := ∀ f args h r, c f args h = some r → c' f args h = some r

section
variable {P : Program} {c c' : CallF}

theorem aStep_le (hc : CLe c c') {o : Oper} {st : St} {r : Value × Hp × List (FuncId × List Value)} (h : aStep P c o st = some r) : aStep P c' o st = some r := by
  unfold aStep at *
  split at h
  · exact h
  · exact h
  · split at h
    · exact h
    · split at h
      · split at h
        · rename_i f args ht
          split at h
          · rename_i v hp hcl
            simp only [ht, hc _ _ _ _ hcl]
            exact h
          · cases h
        · cases h
      · exact h
      · cases h
theorem runOps_le (hc : CLe c c') {ops : Array Oper} : ∀ {os : List Oper} {st r : St}, runOps P c ops os st = some r → runOps P c' ops os st = some r
  | [], st, r, h => h
  | o :: os, st, r, h => by
    unfold runOps at *
    split at h
    · exact runOps_le hc h
    · split at h
      · rename_i hs
        simp only [aStep_le hc hs]
        exact runOps_le hc h
      · cases h
theorem runLog_le (hc : CLe c c') {ops : Array Oper} : ∀ {os : List Oper} {i : Nat} {st : St} {r : St × List Log}, runLog P c ops os i st = some r → runLog P c' ops os i st = some r
  | [], i, st, r, h => h
  | o :: os, i, st, r, h => by
    unfold runLog at *
    split at h
    · exact runLog_le hc h
    · split at h
      · rename_i hs
        simp only [aStep_le hc hs]
        split at h
        · rename_i hl
          simp only [runLog_le hc hl]
          exact h
        · cases h
      · cases h
theorem aRegion_le (hc : CLe c c') {ops : Array Oper} {draw : Bool} {st r : St} (h : aRegion P c ops draw st = some r) : aRegion P c' ops draw st = some r := by
  unfold aRegion at *
  split at h
  · exact runOps_le hc h
  · split at h
    · exact runOps_le hc h
    · split at h
      · rename_i hl
        simp only [runLog_le hc hl]
        exact h
      · cases h
theorem exec_le (hc : CLe c c') : ∀ {n n' : Nat} {co : Code} {st : St} {r : Exit × St}, n ≤ n' → exec P c n co st = some r → exec P c' n' co st = some r
  | 0, n', co, st, r, _, h => by cases h
  | n + 1, 0, co, st, r, hn, h => by omega
  | n + 1, n' + 1, co, st, r, hn, h => by
    have hn' : n ≤ n' := by omega
    cases co with
    | region id ops draw =>
      simp only [exec] at *
      split at h
      · rename_i hr
        simp only [aRegion_le hc hr]
        exact h
      · cases h
    | seq a b =>
      simp only [exec] at *
      split at h
      · rename_i hr
        simp only [exec_le hc hn' hr]
        exact exec_le hc hn' h
      · rename_i hne
        have h2 := exec_le hc hn' h
        rw [h2]
        split
        · rename_i heq
          cases heq
          exact absurd h (hne _)
        · rfl
    | cond x a b =>
      simp only [exec] at *
      split at h
      · exact exec_le hc hn' h
      · exact exec_le hc hn' h
      · cases h
    | block id b =>
      simp only [exec] at *
      split at h
      · rename_i hr
        simp only [exec_le hc hn' hr]
        exact h
      · rename_i hne
        have h2 := exec_le hc hn' h
        rw [h2]
        split
        · rename_i heq
          cases heq
          exact absurd h (hne _ _)
        · rfl
    | loop b =>
      simp only [exec] at *
      split at h
      · rename_i hr
        simp only [exec_le hc hn' hr]
        exact exec_le hc hn' h
      · rename_i hne
        have h2 := exec_le hc hn' h
        rw [h2]
        split
        · rename_i heq
          cases heq
          exact absurd h (hne _)
        · rfl
    | scope b =>
      simp only [exec] at *
      exact exec_le hc hn' h
    | _ => simp only [exec] at * <;> exact h
theorem aBody_le (hc : CLe c c') {n n' : Nat} (hn : n ≤ n') {fn : Func} {args : List Value} {h : Hp} {r : St} (he : aBody P c n fn args h = some r) : aBody P c' n' fn args h = some r := by
  unfold aBody at *
  split at he
  · cases he
  · split at he
    · cases he
    · split at he
      · rename_i hx
        simp only [exec_le hc hn hx]; exact he
      · rename_i hx
        simp only [exec_le hc hn hx]; exact he
      · cases he
theorem aPlain_le (hc : CLe c c') {ext : Ext} {n n' : Nat} (hn : n ≤ n') : CLe (aPlain P ext c n) (aPlain P ext c' n') := by
  intro f args h r he
  unfold aPlain at *
  split at he
  · cases he
  · split at he
    · cases he
    · split at he
      · cases he
      · rename_i hb
        simp only [aBody_le hc hn hb]
        exact he
theorem runDf_le {d d' : CallF} (hd : CLe d d') : ∀ {ds : List (FuncId × List Value)} {h r : Hp}, runDf d ds h = some r → runDf d' ds h = some r
  | [], h, r, he => he
  | x :: ds, h, r, he => by
    unfold runDf at *
    split at he
    · rename_i hx
      simp only [hd _ _ _ _ hx]
      exact runDf_le hd he
    · cases he

/-- The functions that are told apart answer no less where more calls are answered. -/
def ExtLe (ext : Ext) : Prop := ∀ f e, ext f = some e → ∀ c c', CLe c c' → ∀ args h r, e c args h = some r → e c' args h = some r

theorem aCall_succ {ext : Ext} (hx : ExtLe ext) : ∀ n, CLe (aCall P ext n) (aCall P ext (n + 1))
  | 0 => fun f args h r he => by cases he
  | n + 1 => fun f args h r he => by
    have ih := aCall_succ hx n
    rw [aCall] at he ⊢
    split at he
    · rename_i e hef
      exact hx f e hef _ _ ih args h r he
    · split at he
      · cases he
      · split at he
        · cases he
        · rename_i st hb
          simp only [aBody_le ih (Nat.le_succ n) hb]
          split at he
          · rename_i hd
            simp only [runDf_le (aPlain_le ih (Nat.le_succ n)) hd]
            exact he
          · cases he
theorem aCall_le {ext : Ext} (hx : ExtLe ext) {n n' : Nat} (h : n ≤ n') : CLe (aCall P ext n) (aCall P ext n') := by
  induction n' with
  | zero =>
    have : n = 0 := by omega
    subst this
    exact fun _ _ _ _ h => h
  | succ n' ih =>
    rcases Nat.lt_or_ge n' n with q | q
    · have : n = n' + 1 := by omega
      subst this
      exact fun _ _ _ _ h => h
    · exact fun f args h r he => aCall_succ hx n' f args h r (ih q f args h r he)
end

theorem atoms_le : ∀ p ∈ atoms, ∀ c c', CLe c c' → ∀ args h r, p.2 c args h = some r → p.2 c' args h = some r := by
  intro p hp
  simp only [atoms, List.mem_cons, List.mem_nil_iff, or_false] at hp
  rcases hp with rfl | rfl | rfl | rfl | rfl | rfl | rfl | rfl | rfl | rfl | rfl | rfl | rfl | rfl | rfl | rfl <;> intro c c' hc args h r he <;> dsimp only at he ⊢ <;> first
    | (unfold atLoad at he ⊢; split at he <;> first | exact he | cases he)
    | (unfold atStore at he ⊢; split at he <;> first | exact he | cases he)
    | (unfold atAdd at he ⊢; split at he <;> first | exact he | cases he)
    | (unfold atCas at he ⊢; split at he <;> first | exact he | cases he)
    | (unfold noneE at he ⊢; split at he <;> first | exact he | cases he)
    | (unfold markE at he ⊢; split at he <;> first | exact he | cases he)
theorem extOf_le (P : Program) : ExtLe (extOf P) := by
  intro f e he c c' hc args h r hr
  unfold extOf at he
  split at he
  · cases he; cases hr
  · split at he
    · split at he
      · split at he
        · rename_i e' ha
          cases he
          exact atoms_le _ (atomIn_mem ha) c c' hc args h r hr
        · cases he; cases hr
      · cases he; cases hr
    · split at he
      · cases he
      · cases he; cases hr

/-! ### Without fuel -/
open Classical in
/-- What a call answers, with enough fuel. -/
noncomputable def C (P : Program) : CallF := fun f args h => if e : ∃ n r, aCall P (extOf P) n f args h = some r then some e.choose_spec.choose else none
open Classical in
noncomputable def X (P : Program) (c : Code) (st : St) : Option (Exit × St) := if e : ∃ n r, exec P (aCall P (extOf P) n) n c st = some r then some e.choose_spec.choose else none

section
variable {P : Program}
theorem C_of {n : Nat} {f : FuncId} {args : List Value} {h : Hp} {r : Value × Hp} (he : aCall P (extOf P) n f args h = some r) : C P f args h = some r := by
  have hex : ∃ n r, aCall P (extOf P) n f args h = some r := ⟨n, r, he⟩
  unfold C
  rw [dif_pos hex]
  have h1 := hex.choose_spec.choose_spec
  have h2 := aCall_le (extOf_le P) (Nat.le_max_left hex.choose n) _ _ _ _ h1
  have h3 := aCall_le (extOf_le P) (Nat.le_max_right hex.choose n) _ _ _ _ he
  rw [h2] at h3
  exact h3
theorem C_to {f : FuncId} {args : List Value} {h : Hp} {r : Value × Hp} (he : C P f args h = some r) : ∃ n, aCall P (extOf P) n f args h = some r := by
  unfold C at he
  split at he
  · rename_i hex
    cases he
    exact ⟨hex.choose, hex.choose_spec.choose_spec⟩
  · cases he
theorem X_of {n : Nat} {c : Code} {st : St} {r : Exit × St} (he : exec P (aCall P (extOf P) n) n c st = some r) : X P c st = some r := by
  have hex : ∃ n r, exec P (aCall P (extOf P) n) n c st = some r := ⟨n, r, he⟩
  unfold X
  rw [dif_pos hex]
  have h1 := hex.choose_spec.choose_spec
  have h2 := exec_le (aCall_le (extOf_le P) (Nat.le_max_left hex.choose n)) (Nat.le_max_left hex.choose n) h1
  have h3 := exec_le (aCall_le (extOf_le P) (Nat.le_max_right hex.choose n)) (Nat.le_max_right hex.choose n) he
  rw [h2] at h3
  exact h3
theorem X_to {c : Code} {st : St} {r : Exit × St} (he : X P c st = some r) : ∃ n, ∀ k, n ≤ k → exec P (aCall P (extOf P) k) k c st = some r := by
  unfold X at he
  split at he
  · rename_i hex
    cases he
    exact ⟨hex.choose, fun k hk => exec_le (aCall_le (extOf_le P) hk) hk hex.choose_spec.choose_spec⟩
  · cases he
theorem aCall_C (n : Nat) : CLe (aCall P (extOf P) n) (C P) := fun f args h r he => C_of he

/-- A region's run with calls without fuel takes but finitely much. -/
theorem fin_step {o : Oper} {st : St} {r : Value × Hp × List (FuncId × List Value)} (h : aStep P (C P) o st = some r) : ∃ n, ∀ k, n ≤ k → aStep P (aCall P (extOf P) k) o st = some r := by
  unfold aStep at h
  split at h
  · rename_i hc
    exact ⟨0, fun k _ => by unfold aStep; simp only [hc]; exact h⟩
  · rename_i hc
    exact ⟨0, fun k _ => by unfold aStep; simp only [hc]; exact h⟩
  · rename_i hc
    split at h
    · rename_i ho
      exact ⟨0, fun k _ => by unfold aStep; simp only [hc, ho]; exact h⟩
    · rename_i ho
      split at h
      · rename_i c hop
        split at h
        · rename_i f args ht
          split at h
          · rename_i v hp hcl
            obtain ⟨n, hn⟩ := C_to hcl
            refine ⟨n, fun k hk => ?_⟩
            unfold aStep
            simp only [hc, ho, hop, ht, aCall_le (extOf_le P) hk _ _ _ _ hn]
            exact h
          · cases h
        · cases h
      · rename_i c hop
        exact ⟨0, fun k _ => by unfold aStep; simp only [hc, ho, hop]; exact h⟩
      · cases h
theorem fin_ops {ops : Array Oper} : ∀ {os : List Oper} {st r : St}, runOps P (C P) ops os st = some r → ∃ n, ∀ k, n ≤ k → runOps P (aCall P (extOf P) k) ops os st = some r
  | [], st, r, h => ⟨0, fun _ _ => h⟩
  | o :: os, st, r, h => by
    unfold runOps at h
    split at h
    · rename_i hw
      obtain ⟨n, hn⟩ := fin_ops h
      exact ⟨n, fun k hk => by unfold runOps; simp only [hw]; exact hn k hk⟩
    · rename_i hw
      split at h
      · rename_i hs
        obtain ⟨n1, h1⟩ := fin_step hs
        obtain ⟨n2, h2⟩ := fin_ops h
        exact ⟨max n1 n2, fun k hk => by unfold runOps; simp only [hw, h1 k (by omega)]; exact h2 k (by omega)⟩
      · cases h
theorem fin_log {ops : Array Oper} : ∀ {os : List Oper} {i : Nat} {st : St} {r : St × List Log}, runLog P (C P) ops os i st = some r → ∃ n, ∀ k, n ≤ k → runLog P (aCall P (extOf P) k) ops os i st = some r
  | [], i, st, r, h => ⟨0, fun _ _ => h⟩
  | o :: os, i, st, r, h => by
    unfold runLog at h
    split at h
    · rename_i hw
      obtain ⟨n, hn⟩ := fin_log h
      exact ⟨n, fun k hk => by unfold runLog; simp only [hw]; exact hn k hk⟩
    · rename_i hw
      split at h
      · rename_i hs
        obtain ⟨n1, h1⟩ := fin_step hs
        split at h
        · rename_i hl
          obtain ⟨n2, h2⟩ := fin_log hl
          exact ⟨max n1 n2, fun k hk => by unfold runLog; simp only [hw, h1 k (by omega), h2 k (by omega)]; exact h⟩
        · cases h
      · cases h
theorem fin_region {ops : Array Oper} {draw : Bool} {st r : St} (h : aRegion P (C P) ops draw st = some r) : ∃ n, ∀ k, n ≤ k → aRegion P (aCall P (extOf P) k) ops draw st = some r := by
  unfold aRegion at h
  split at h
  · exact fin_ops h
  · split at h
    · rename_i hf
      obtain ⟨n, hn⟩ := fin_ops h
      exact ⟨n, fun k hk => by unfold aRegion; simp only [hf]; exact hn k hk⟩
    · rename_i hf
      split at h
      · rename_i hl
        obtain ⟨n, hn⟩ := fin_log hl
        refine ⟨n, fun k hk => ?_⟩
        unfold aRegion
        cases hfl : floats P ops with
        | nil => exact absurd hfl hf
        | cons q qs =>
          rw [hfl] at h
          simp only [hn k hk]
          exact h
      · cases h

theorem X_skip {st : St} : X P .skip st = some (.normal, st) := X_of (n := 1) rfl
theorem X_label {l : Nat} {st : St} : X P (.label l) st = some (.normal, st) := X_of (n := 1) rfl
theorem X_exit {i : Nat} {st : St} : X P (.exit i) st = some (.exit i, st) := X_of (n := 1) rfl
theorem X_ret {st : St} : X P .ret st = some (.ret, st) := X_of (n := 1) rfl
theorem X_region {id : Nat} {ops : Array Oper} {draw : Bool} {st st' : St} (h : aRegion P (C P) ops draw st = some st') : X P (.region id ops draw) st = some (.normal, st') := by
  obtain ⟨n, hn⟩ := fin_region h
  refine X_of (n := n + 1) ?_
  simp only [exec, hn (n + 1) (by omega)]
theorem X_seq {a b : Code} {st st' : St} {r : Exit × St} (h1 : X P a st = some (.normal, st')) (h2 : X P b st' = some r) : X P (.seq a b) st = some r := by
  obtain ⟨n, hn⟩ := X_to h1
  obtain ⟨k, hk⟩ := X_to h2
  refine X_of (n := max n k + 1) ?_
  simp only [exec, exec_le (fun _ _ _ _ h => h) (show max n k ≤ max n k from Nat.le_refl _) (exec_le (aCall_le (extOf_le P) (Nat.le_succ _)) (Nat.le_refl _) (hn (max n k) (by omega)))]
  exact exec_le (aCall_le (extOf_le P) (Nat.le_succ _)) (Nat.le_refl _) (hk (max n k) (by omega))
theorem X_seq_out {a b : Code} {st st' : St} {e : Exit} (h1 : X P a st = some (e, st')) (he : e ≠ .normal) : X P (.seq a b) st = some (e, st') := by
  obtain ⟨n, hn⟩ := X_to h1
  refine X_of (n := n + 1) ?_
  simp only [exec, exec_le (aCall_le (extOf_le P) (Nat.le_succ n)) (Nat.le_refl n) (hn n (Nat.le_refl _))]
  split
  · rename_i heq; cases heq; exact absurd rfl he
  · rfl
theorem X_true {x : Operand} {a b : Code} {st : St} {r : Exit × St} (hx : st.eval x = .bool true) (h : X P a st = some r) : X P (.cond x a b) st = some r := by
  obtain ⟨n, hn⟩ := X_to h
  refine X_of (n := n + 1) ?_
  simp only [exec, hx]
  exact exec_le (aCall_le (extOf_le P) (Nat.le_succ n)) (Nat.le_refl n) (hn n (Nat.le_refl _))
theorem X_false {x : Operand} {a b : Code} {st : St} {r : Exit × St} (hx : st.eval x = .bool false) (h : X P b st = some r) : X P (.cond x a b) st = some r := by
  obtain ⟨n, hn⟩ := X_to h
  refine X_of (n := n + 1) ?_
  simp only [exec, hx]
  exact exec_le (aCall_le (extOf_le P) (Nat.le_succ n)) (Nat.le_refl n) (hn n (Nat.le_refl _))
theorem X_block {id : Nat} {b : Code} {st st' : St} {e : Exit} (h : X P b st = some (e, st')) : X P (.block id b) st = some (match e with | .exit i => if i = id then .normal else .exit i | e => e, st') := by
  obtain ⟨n, hn⟩ := X_to h
  refine X_of (n := n + 1) ?_
  simp only [exec, exec_le (aCall_le (extOf_le P) (Nat.le_succ n)) (Nat.le_refl n) (hn n (Nat.le_refl _))]
  cases e with
  | exit i =>
    simp only
    by_cases hi : i = id
    · subst hi; simp
    · have : Nat.beq i id = false := by
        cases hq : Nat.beq i id with
        | false => rfl
        | true => exact absurd (Nat.eq_of_beq_eq_true hq) hi
      simp [this, hi]
  | _ => rfl
theorem X_scope {b : Code} {st : St} {r : Exit × St} (h : X P b st = some r) : X P (.scope b) st = some r := by
  obtain ⟨n, hn⟩ := X_to h
  refine X_of (n := n + 1) ?_
  simp only [exec]
  exact exec_le (aCall_le (extOf_le P) (Nat.le_succ n)) (Nat.le_refl n) (hn n (Nat.le_refl _))
theorem X_loop {b : Code} {st st' : St} {r : Exit × St} (h1 : X P b st = some (.normal, st')) (h2 : X P (.loop b) st' = some r) : X P (.loop b) st = some r := by
  obtain ⟨n, hn⟩ := X_to h1
  obtain ⟨k, hk⟩ := X_to h2
  refine X_of (n := max n k + 1) ?_
  simp only [exec, exec_le (aCall_le (extOf_le P) (Nat.le_succ _)) (Nat.le_refl _) (hn (max n k) (by omega))]
  exact exec_le (aCall_le (extOf_le P) (Nat.le_succ _)) (Nat.le_refl _) (hk (max n k) (by omega))
theorem X_loop_out {b : Code} {st st' : St} {e : Exit} (h1 : X P b st = some (e, st')) (he : e ≠ .normal) : X P (.loop b) st = some (e, st') := by
  obtain ⟨n, hn⟩ := X_to h1
  refine X_of (n := n + 1) ?_
  simp only [exec, exec_le (aCall_le (extOf_le P) (Nat.le_succ n)) (Nat.le_refl n) (hn n (Nat.le_refl _))]
  split
  · rename_i heq; cases heq; exact absurd rfl he
  · rfl

/-- A call, from its body's run: where nothing is deferred. -/
theorem C_call {f : FuncId} {fn : Func} {c : Code} {args : List Value} {h : Hp} {e : Exit} {st : St} {v : Value} (hf : P.funcs[f]? = some fn) (hs : fnSafe P fn = true) (hb : fn.body = some c) (hn : args.length ≤ fn.ntmps)
    (hx : X P c ⟨tmsOf args 0 .leaf, h, []⟩ = some (e, st)) (he : e = .normal ∨ e = .ret) (hd : st.df = []) (hv : retVal P fn st = some v) : C P f args h = some (v, st.hp) := by
  obtain ⟨n, hn2⟩ := X_to hx
  have hext : extOf P f = none := by unfold extOf; simp only [hf, hb, hs]
  refine C_of (n := n + 1) ?_
  have hbody : aBody P (aCall P (extOf P) n) n fn args h = some st := by
    unfold aBody
    simp only [hb, Nat.ble_eq_true_of_le hn, hn2 n (Nat.le_refl _)]
    rcases he with rfl | rfl <;> rfl
  rw [aCall]
  obtain ⟨tm, hp, df⟩ := st
  simp only at hd
  subst hd
  simp only [hext, hf, hbody, runDf, hv, Option.map_some]
end
end Go.Proofs.Ytjecepaaalfilaa.AI
