/- Soundness, 16: calls. -/
import Derived.Test.YtjecepaaalfilaaAi19
set_option linter.unusedVariables false
set_option linter.unusedSimpArgs false
namespace Go.Proofs.Ytjecepaaalfilaa.AI
open Go

def CallGoal (P : Program) (f : FuncId) (e : List Value → Hp → Option (Value × Hp)) : Prop :=
  ∀ args hp v hp', e args hp = some (v, hp') → hp.ok → hp'.ok ∧ hp.sz ≤ hp'.sz ∧
    ∀ m h w args', (∀ b, hp.sz ≤ b → b < hp'.sz → h b = none) → Sim m (ovr hp h) w → VRelL m (ovr hp h) args args'.toList →
      CallRun P f args' w fun v' w' => ∃ m', Go1 m (ovr hp h) w m' (ovr hp' h) w' ∧ VRel m' (ovr hp' h) v v'
/-- What is asked of the functions that are told apart by name. -/
def ExtOk (P : Program) (ext : Ext) : Prop :=
  ∀ f, match ext f with
    | some e => ∀ call, CallOk P call → CallGoal P f (e call)
    | none => ∃ fn, P.funcs[f]? = some fn ∧ fnSafe P fn = true

theorem DRel.of_nil {m : BM} {h : HG} {ds : List Deferred} (r : DRel m h [] ds) : ds = [] := by cases r; rfl
theorem tmsOf_get : ∀ (args : List Value) (i : Nat) (tr : Tr Value) (x : Nat), (tmsOf args i tr).get x = if i ≤ x ∧ x < i + args.length then args[x - i]? else tr.get x
  | [], i, tr, x => by simp [tmsOf]; intro h1 h2; omega
  | a :: as, i, tr, x => by
    unfold tmsOf
    rw [tmsOf_get as (i + 1), Tr.get_set _ _ _ _ _ (Nat.lt_succ_self i)]
    by_cases h : x = i
    · subst h
      rw [if_neg (by omega), if_pos rfl, if_pos (by simp)]
      simp
    · rw [if_neg h]
      by_cases h2 : i + 1 ≤ x ∧ x < i + 1 + as.length
      · rw [if_pos h2, if_pos (by simp; omega)]
        rw [show x - i = (x - (i + 1)) + 1 from by omega]
        simp
      · rw [if_neg h2, if_neg (by simp; omega)]

section
variable {P : Program} {call : CallF}

theorem args_rel {m : BM} {h : HG} {args : List Value} {args' : Array Value} {n : Nat} {hp : Hp} (r : VRelL m h args args'.toList) (hn : args.length ≤ n) :
    TRel n m h ⟨tmsOf args 0 .leaf, hp, []⟩ { tmps := args' ++ Array.replicate (n - args'.size) undef, defers := [] } := by
  have hl : args.length = args'.size := by simpa using r.1
  refine ⟨by simp; omega, fun t => ?_⟩
  simp only [St.tget, tmsOf_get, Nat.zero_le, true_and, Nat.zero_add, Nat.sub_zero, Tr.get_leaf]
  by_cases ht : t < args.length
  · rw [if_pos ht]
    have h1 : args[t]? = some args[t] := List.getElem?_eq_getElem ht
    have h2 : args'.toList[t]? = some args'[t] := by simp [show t < args'.size by omega]
    have := r.2 t _ _ h1 h2
    simp only [h1, Option.getD_some, Array.getD_eq_getD_getElem?, Array.getElem?_append, show t < args'.size by omega, if_true]
    simpa [show t < args'.size by omega] using this
  · rw [if_neg ht]
    have : (args' ++ Array.replicate (n - args'.size) undef).getD t undef = undef := by
      simp only [Array.getD_eq_getD_getElem?, Array.getElem?_append, show ¬ t < args'.size by omega, if_false]
      by_cases hx : t - args'.size < n - args'.size
      · simp [hx]
      · simp [hx]
    rw [this]
    exact VRel.undef

theorem fnSafe_parts {fn : Func} (h : fnSafe P fn = true) : ∃ c, fn.body = some c ∧ codeSafe P fn.ntmps c = true ∧ (fn.name == "runtime.NumGoroutine") = false := by
  unfold fnSafe at h
  split at h
  · cases h
  · rename_i c hc
    simp only [Bool.and_eq_true, Bool.not_eq_true'] at h
    exact ⟨c, hc, h.1, h.2⟩

theorem aBody_sound (hc : CallOk P call) (hm : P.follows .mixedOrders = true) {n : Nat} {fn : Func} {c : Code} (hb : fn.body = some c) (hs : codeSafe P fn.ntmps c = true) {args : List Value} {hp : Hp} {st : St} (he : aBody P call n fn args hp = some st) (hk : hp.ok) :
    st.hp.ok ∧ hp.sz ≤ st.hp.sz ∧ ∀ (m : BM) (h : HG) (w : World) (args' : Array Value), (∀ b, hp.sz ≤ b → b < st.hp.sz → h b = none) → Sim m (ovr hp h) w → VRelL m (ovr hp h) args args'.toList →
      c.wp P (fun e' a' w' => (e' = .normal ∨ e' = .ret) ∧ ∃ m', Go1 m (ovr hp h) w m' (ovr st.hp h) w' ∧ Rel fn.ntmps m' h w' st a') { tmps := args' ++ Array.replicate (fn.ntmps - args'.size) undef, defers := [] } w := by
  unfold aBody at he
  simp only [hb] at he
  split at he
  · cases he
  · rename_i hle
    have hle' : args.length ≤ fn.ntmps := Nat.le_of_ble_eq_true hle
    have key : ∀ e, exec P call n c ⟨tmsOf args 0 .leaf, hp, []⟩ = some (e, st) → (e = .normal ∨ e = .ret) →
        st.hp.ok ∧ hp.sz ≤ st.hp.sz ∧ ∀ (m : BM) (h : HG) (w : World) (args' : Array Value), (∀ b, hp.sz ≤ b → b < st.hp.sz → h b = none) → Sim m (ovr hp h) w → VRelL m (ovr hp h) args args'.toList →
          c.wp P (fun e' a' w' => (e' = .normal ∨ e' = .ret) ∧ ∃ m', Go1 m (ovr hp h) w m' (ovr st.hp h) w' ∧ Rel fn.ntmps m' h w' st a') { tmps := args' ++ Array.replicate (fn.ntmps - args'.size) undef, defers := [] } w := by
      intro e hx hee
      obtain ⟨_, k1, k2, k3⟩ := exec_sound hc hm n c _ e st hx hs hk
      refine ⟨k1, k2, fun m h w args' hf s r => ?_⟩
      refine wp_mono (wpR_wp (k3 m h w _ hf ⟨s, args_rel r hle', .nil⟩)) fun e' a' w' q => ?_
      obtain ⟨rfl, q2⟩ := q
      exact ⟨hee, q2⟩
    split at he
    · rename_i st1 hx
      cases he
      exact key _ hx (.inl rfl)
    · rename_i st1 hx
      cases he
      exact key _ hx (.inr rfl)
    · cases he

/-- A deferred call. -/
theorem aPlain_sound {ext : Ext} (hx : ExtOk P ext) (hc : CallOk P call) (hm : P.follows .mixedOrders = true) {n : Nat} {f : FuncId} {args : List Value} {hp hp' : Hp} {v : Value} (he : aPlain P ext call n f args hp = some (v, hp')) (hk : hp.ok) :
    hp'.ok ∧ hp.sz ≤ hp'.sz ∧ ∀ (m : BM) (h : HG) (w : World) (args' : Array Value), (∀ b, hp.sz ≤ b → b < hp'.sz → h b = none) → Sim m (ovr hp h) w → VRelL m (ovr hp h) args args'.toList →
      (callFunc f args').run P w = .ok (.enter f args') w ∧
      CallsD P f args' .returning w fun e u' w' => u' = .returning ∧ ∃ v', e = .returned v' ∧ ∃ m', Go1 m (ovr hp h) w m' (ovr hp' h) w' := by
  unfold aPlain at he
  have hxf := hx f
  split at he
  · cases he
  · rename_i hef
    rw [hef] at hxf
    obtain ⟨fn, hfn, hsafe⟩ := hxf
    simp only [hfn] at he
    obtain ⟨c, hb, hs, hnm⟩ := fnSafe_parts hsafe
    split at he
    · cases he
    · rename_i st hbd
      obtain ⟨k1, k2, k3⟩ := aBody_sound hc hm hb hs hbd hk
      split at he
      · rename_i hdf
        obtain ⟨v0, hv, e⟩ := Option.map_eq_some_iff.1 he
        cases e
        refine ⟨k1, k2, fun m h w args' hf s r => ⟨run_callFunc hfn (by rw [hb]; rfl) hnm, ?_⟩⟩
        refine callsD_of_wp (R := fun e w' => ∃ v', e = .returned v' ∧ ∃ m', Go1 m (ovr hp h) w m' (ovr st.hp h) w') hfn hb ?_
        refine wp_mono (k3 m h w args' hf s r) fun e' a' w' q => ?_
        obtain ⟨q1, m', g, rl⟩ := q
        have hnil : a'.defers = [] := by
          have := rl.df
          rw [hdf] at this
          exact this.of_nil
        obtain ⟨v', h1, h2⟩ := retVal_sound k1 rl.sim rl.tm hv
        rcases q1 with rfl | rfl
        · exact ⟨hnil, v', h1, v', rfl, m', g⟩
        · exact ⟨hnil, v', h1, v', rfl, m', g⟩
      · cases he

theorem runDf_sound {ext : Ext} (hx : ExtOk P ext) (hc : CallOk P call) (hm : P.follows .mixedOrders = true) {n : Nat} {fn : Func} {tmps : Array Value} {R : Ending → World → Prop} : ∀ (df : List (FuncId × List Value)) (hp hp' : Hp), runDf (aPlain P ext call n) df hp = some hp' → hp.ok →
    hp'.ok ∧ hp.sz ≤ hp'.sz ∧ ∀ (m : BM) (h : HG) (w : World) (ds : List Deferred), (∀ b, hp.sz ≤ b → b < hp'.sz → h b = none) → Sim m (ovr hp h) w → DRel m (ovr hp h) df ds →
      (∀ m' w', Go1 m (ovr hp h) w m' (ovr hp' h) w' → ∃ v, (results fn tmps).run P w' = .ok v w' ∧ R (.returned v) w') → Leaves P fn tmps R ds .returning w
  | [], hp, hp', he, hk => by
    cases he
    refine ⟨hk, Nat.le_refl _, fun m h w ds hf s hd hR => ?_⟩
    cases hd
    exact hR m w (Go1.refl s)
  | (f, args) :: df, hp, hp', he, hk => by
    unfold runDf at he
    split at he
    · rename_i v hp1 h1
      obtain ⟨k1, k2, k3⟩ := aPlain_sound hx hc hm h1 hk
      obtain ⟨j1, j2, j3⟩ := runDf_sound hx hc hm df hp1 hp' he k1
      refine ⟨j1, Nat.le_trans k2 j2, fun m h w ds hf s hd hR => ?_⟩
      cases hd with
      | cons htar hargs hrest =>
        rename_i d cap ds'
        obtain ⟨tar, dargs⟩ := d
        simp only at htar hargs
        subst htar
        obtain ⟨q1, q2⟩ := k3 m h w _ (fun b h1 h2 => hf b h1 (Nat.lt_of_lt_of_le h2 j2)) s hargs
        refine leaves_cons (f := f) (args := dargs ++ cap) (by simp) q1 ?_
        refine q2.mono fun e u' w' hh => ?_
        obtain ⟨rfl, v', rfl, m', g⟩ := hh
        exact j3 m' h w' ds' (fun b h1 h2 => hf b (Nat.le_trans k2 h1) h2) g.sim (hrest.mono g.le) fun m2 w2 g2 => hR m2 w2 (g.trans g2)
    · cases he

theorem aCall_sound {ext : Ext} (hx : ExtOk P ext) (hm : P.follows .mixedOrders = true) : ∀ n, CallOk P (aCall P ext n)
  | 0 => fun f args hp v hp' he => by cases he
  | n + 1 => fun f args hp v hp' he hk => by
    have hc := aCall_sound hx hm n
    have hxf := hx f
    simp only [aCall] at he
    split at he
    · rename_i e hef
      rw [hef] at hxf
      exact hxf _ hc args hp v hp' he hk
    · rename_i hef
      rw [hef] at hxf
      obtain ⟨fn, hfn, hsafe⟩ := hxf
      simp only [hfn] at he
      obtain ⟨c, hb, hs, hnm⟩ := fnSafe_parts hsafe
      split at he
      · cases he
      · rename_i st hbd
        obtain ⟨k1, k2, k3⟩ := aBody_sound hc hm hb hs hbd hk
        split at he
        · rename_i h' hdf
          obtain ⟨v0, hv, e⟩ := Option.map_eq_some_iff.1 he
          cases e
          obtain ⟨j1, j2, _⟩ := runDf_sound (fn := fn) (tmps := #[]) (R := fun _ _ => True) hx hc hm st.df st.hp hp' hdf k1
          refine ⟨j1, Nat.le_trans k2 j2, fun m h w args' hf s r => .inr ⟨run_callFunc hfn (by rw [hb]; rfl) hnm, ?_⟩⟩
          refine calls_of_wp_defers hfn hb ?_
          refine wp_mono (k3 m h w args' (fun b h1 h2 => hf b h1 (Nat.lt_of_lt_of_le h2 j2)) s r) fun e' a' w' q => ?_
          obtain ⟨q1, m', g, rl⟩ := q
          have hl : Leaves P fn a'.tmps (fun e w' => ∃ v', e = .returned v' ∧ ∃ m', Go1 m (ovr hp h) w m' (ovr hp' h) w' ∧ VRel m' (ovr hp' h) v v') a'.defers .returning w' := by
            refine (runDf_sound hx hc hm st.df st.hp hp' hdf k1).2.2 m' h w' a'.defers (fun b h1 h2 => hf b (Nat.le_trans k2 h1) h2) rl.sim rl.df fun m2 w2 g2 => ?_
            have t2 : TRel fn.ntmps m2 (ovr hp' h) { st with hp := hp' } a' := ⟨rl.tm.size, fun t => (rl.tm.tm t).mono g2.le⟩
            obtain ⟨v', h1, h2⟩ := retVal_sound (st := { st with hp := hp' }) j1 g2.sim t2 hv
            exact ⟨v', h1, v', rfl, m2, g.trans g2, h2⟩
          rcases q1 with rfl | rfl
          · exact hl
          · exact hl
        · cases he
end
end Go.Proofs.Ytjecepaaalfilaa.AI
