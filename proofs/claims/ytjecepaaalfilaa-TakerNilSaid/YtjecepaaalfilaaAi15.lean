/- Soundness, 11: regions in text order, code. -/
import Derived.Test.YtjecepaaalfilaaAi14
import Derived.LoopN
set_option linter.unusedVariables false
set_option linter.unusedSimpArgs false
namespace Go.Proofs.Ytjecepaaalfilaa.AI
open Go

structure TRel (n : Nat) (m : BM) (h : HG) (st : St) (a : Act) : Prop where
  size : a.tmps.size = n
  tm : ∀ t, VRel m h (st.tget t) (a.tmps.getD t undef)
theorem TRel.mono {n : Nat} {m m' : BM} {h h' : HG} (l : Le m h m' h') {st : St} {a : Act} (r : TRel n m h st a) : TRel n m' h' st a := ⟨r.size, fun t => (r.tm t).mono l⟩

theorem St.tget_put (s : St) (d : Option Tmp) (v : Value) (t : Tmp) : (s.tput d v).tget t = if d = some t then v else s.tget t := by
  cases d with
  | none => simp [St.tput]
  | some d =>
    simp only [St.tput, St.tget, Tr.get_set _ _ _ _ _ (Nat.lt_succ_self d)]
    by_cases e : t = d
    · subst e; simp
    · rw [if_neg e, if_neg (by simp; exact Ne.symm e)]
theorem Act.getD_put (a : Act) (d : Option Tmp) (v : Value) (t : Tmp) (hd : ∀ x, d = some x → x < a.tmps.size) : (a.put d v).tmps.getD t undef = if d = some t then v else a.tmps.getD t undef := by
  cases d with
  | none => simp [Act.put]
  | some d =>
    have := hd d rfl
    simp only [Act.put]
    by_cases e : d = t
    · subst e; simp [this]
    · rw [if_neg (by simp; exact e)]
      simp [Array.getElem?_setIfInBounds_ne e]
theorem Act.size_put (a : Act) (d : Option Tmp) (v : Value) : (a.put d v).tmps.size = a.tmps.size := by
  cases d <;> simp [Act.put]
theorem Act.defers_put (a : Act) (d : Option Tmp) (v : Value) : (a.put d v).defers = a.defers := by
  cases d <;> simp [Act.put]

theorem TRel.put {n : Nat} {m : BM} {h : HG} {st : St} {a : Act} (r : TRel n m h st a) {d : Option Tmp} {v v' : Value} (hd : ∀ x, d = some x → x < n) (hv : VRel m h v v') : TRel n m h (st.tput d v) (a.put d v') := by
  refine ⟨by rw [Act.size_put]; exact r.size, fun t => ?_⟩
  rw [St.tget_put, Act.getD_put _ _ _ _ (fun x hx => by rw [r.size]; exact hd x hx)]
  split
  · exact hv
  · exact r.tm t
theorem TRel.eval {n : Nat} {m : BM} {h : HG} {st : St} {a : Act} (r : TRel n m h st a) {x : Operand} (hx : okConst x = true) : VRel m h (st.eval x) (a.eval x) := by
  cases x with
  | tmp t => exact r.tm t
  | const v => exact VRel.plain hx
  | global g => cases hx
  | func f => exact VRel.fn f

theorem VRel.to_bool {m : BM} {h : HG} {v : Value} {b : Bool} (r : VRel m h v (.bool b)) : v = .bool b := by
  cases r; rfl
theorem tget_bool {st : St} {t : Nat} {b : Bool} (h : st.tget t = .bool b) : st.tm.get t = some (.bool b) := by
  unfold St.tget at h
  cases hq : st.tm.get t with
  | none => rw [hq] at h; simp [undef] at h
  | some v => rw [hq] at h; simp at h; rw [h]

/-- The guard of an operation: the same in both. -/
theorem wanted_iff {m : BM} {h : HG} {ops : Array Oper} {st : St} {a : Act} {o : Oper}
    (hr : ∀ j w t, o.guard = some (j, w) → (ops[j]?).bind (·.dst) = some t → VRel m h (st.tget t) (a.tmps.getD t undef)) :
    Region.wanted o (yielded ops a.tmps) = aWanted ops st o := by
  unfold Region.wanted aWanted
  cases hg : o.guard with
  | none => rfl
  | some jw =>
    obtain ⟨j, want⟩ := jw
    simp only
    unfold yielded
    cases ht : (ops[j]?).bind (·.dst) with
    | none => rfl
    | some t =>
      have r := hr j want t hg ht
      simp only [Option.bind_some]
      cases hq : a.tmps[t]? with
      | none =>
        have hu : a.tmps.getD t undef = undef := by simp [hq]
        rw [hu] at r
        cases hs : st.tm.get t with
        | none => rfl
        | some v =>
          have : st.tget t = v := by simp [St.tget, hs]
          rw [this] at r
          cases v with
          | bool b => have := r.of_bool; simp [undef] at this
          | _ => rfl
      | some u =>
        have hu : a.tmps.getD t undef = u := by simp [hq]
        rw [hu] at r
        cases u with
        | bool b =>
          have := tget_bool r.to_bool
          simp only [this]
          cases b <;> cases want <;> rfl
        | _ =>
          cases hs : st.tm.get t with
          | none => rfl
          | some v =>
            have : st.tget t = v := by simp [St.tget, hs]
            rw [this] at r
            cases v with
            | bool b => have := r.of_bool; cases this
            | _ => rfl

/-- A frame and its reading. -/
structure Rel (n : Nat) (m : BM) (h : HG) (w : World) (st : St) (a : Act) : Prop where
  sim : Sim m (ovr st.hp h) w
  tm : TRel n m (ovr st.hp h) st a
  df : DRel m (ovr st.hp h) st.df a.defers

theorem Rel.of_go {n : Nat} {m m' : BM} {h : HG} {w w' : World} {st : St} {a : Act} {hp' : Hp} {df' : List (FuncId × List Value)} {ds' : List Deferred} {d : Option Tmp} {v v' : Value}
    (r : Rel n m h w st a) (g : Go1 m (ovr st.hp h) w m' (ovr hp' h) w') (hv : VRel m' (ovr hp' h) v v') (hd : DRel m' (ovr hp' h) df' ds') (hb : ∀ x, d = some x → x < n) :
    Rel n m' h w' ({ st with hp := hp', df := df' }.tput d v) ({ a with defers := ds' }.put d v') := by
  have e1 : ({ st with hp := hp', df := df' }.tput d v : St).hp = hp' := by cases d <;> rfl
  have e2 : ({ st with hp := hp', df := df' }.tput d v : St).df = df' := by cases d <;> rfl
  refine ⟨by rw [e1]; exact g.sim, ?_, by rw [e1, e2, Act.defers_put]; exact hd⟩
  rw [e1]
  have t := r.tm.mono g.le
  exact TRel.put (st := { st with hp := hp', df := df' }) (a := { a with defers := ds' }) ⟨t.size, t.tm⟩ hb hv
theorem Rel.skip {n : Nat} {m : BM} {h : HG} {w : World} {st : St} {a : Act} {d : Option Tmp} (r : Rel n m h w st a) (hb : ∀ x, d = some x → x < n) : Rel n m h w (st.tput d undef) (a.put d undef) := by
  have e1 : (st.tput d undef : St).hp = st.hp := by cases d <;> rfl
  have e2 : (st.tput d undef : St).df = st.df := by cases d <;> rfl
  exact ⟨by rw [e1]; exact r.sim, by rw [e1]; exact r.tm.put hb VRel.undef, by rw [e1, e2, Act.defers_put]; exact r.df⟩

section
variable {P : Program}

theorem okOp_dst {n : Nat} {o : Oper} (h : okOp n o = true) : (∀ x, o.dst = some x → x < n) ∧ ∀ x ∈ o.op.operands.toList, okConst x = true := by
  unfold okOp at h
  simp only [Bool.and_eq_true, List.all_eq_true] at h
  refine ⟨fun x hx => ?_, h.2⟩
  have := h.1
  rw [hx] at this
  simpa using this

theorem runOps_ok {call : CallF} (hc : CallOk P call) {ops : Array Oper} : ∀ (os : List Oper) (st st' : St), runOps P call ops os st = some st' → st.hp.ok → st'.hp.ok ∧ st.hp.sz ≤ st'.hp.sz
  | [], st, st', he, hk => by cases he; exact ⟨hk, Nat.le_refl _⟩
  | o :: os, st, st', he, hk => by
    unfold runOps at he
    split at he
    · have := runOps_ok hc os _ st' he (by cases o.dst <;> exact hk)
      refine ⟨this.1, ?_⟩
      cases hd : o.dst <;> (rw [hd] at this; exact this.2)
    · split at he
      · rename_i v hp df hs
        obtain ⟨k1, k2, _⟩ := step_sound hc hs hk
        have := runOps_ok hc os _ st' he (by cases o.dst <;> exact k1)
        refine ⟨this.1, Nat.le_trans k2 ?_⟩
        cases hd : o.dst <;> (rw [hd] at this; exact this.2)
      · cases he

/-- A region that is run in text order. -/
theorem runOps_sound {call : CallF} (hc : CallOk P call) {ops : Array Oper} {n : Nat} : ∀ (os : List Oper) (i : Nat) (st st' : St), ops.toList.drop i = os → (∀ o ∈ os, okOp n o = true) → runOps P call ops os st = some st' → st.hp.ok →
    ∀ (m : BM) (h : HG) (w : World) (a : Act), (∀ b, st.hp.sz ≤ b → b < st'.hp.sz → h b = none) → Rel n m h w st a →
    ∀ (Q : Exit → Act → World → Prop), (∀ m' w' a', Go1 m (ovr st.hp h) w m' (ovr st'.hp h) w' → Rel n m' h w' st' a' → Q .normal a' w') → wpOps P ops Q (List.range' i os.length) a w
  | [], i, st, st', hi, hok, he, hk, m, h, w, a, hf, r, Q, hQ => by
    cases he
    exact hQ m w a (Go1.refl r.sim) r
  | o :: os, i, st, st', hi, hok, he, hk, m, h, w, a, hf, r, Q, hQ => by
    have hio : ops[i]? = some o := by
      have : (ops.toList.drop i)[0]? = some o := by rw [hi]; rfl
      simpa using this
    have hi' : ops.toList.drop (i + 1) = os := by
      have := congrArg (List.drop 1) hi
      simpa [List.drop_drop, Nat.add_comm] using this
    obtain ⟨hb, hop⟩ := okOp_dst (hok o (.head _))
    have hwant : Region.wanted o (yielded ops a.tmps) = aWanted ops st o := wanted_iff fun j w t _ _ => r.tm.tm t
    rw [List.length_cons, List.range'_succ]
    simp only [wpOps, hio, hwant]
    unfold runOps at he
    split at he
    · rename_i hw
      rw [hw]
      simp only [Bool.false_eq_true, if_false]
      have e1 : (st.tput o.dst undef : St).hp = st.hp := by cases o.dst <;> rfl
      refine runOps_sound hc os (i + 1) _ st' hi' (fun o ho => hok o (.tail _ ho)) he (by rw [e1]; exact hk) m h w _ (by rw [e1]; exact hf) (r.skip hb) Q ?_
      rw [e1]
      exact hQ
    · rename_i hw
      rw [hw]
      simp only [if_true]
      split at he
      · rename_i v hp df hs
        obtain ⟨k1, k2, k3⟩ := step_sound hc hs hk
        have e1 : ({ st with hp := hp, df := df }.tput o.dst v : St).hp = hp := by cases o.dst <;> rfl
        have k4 := (runOps_ok hc os _ st' he (by rw [e1]; exact k1)).2
        rw [e1] at k4
        refine .inl (k3 m h w a (fun b h1 h2 => hf b h1 (Nat.lt_of_lt_of_le h2 k4)) r.sim (fun x hx => r.tm.eval (hop x hx)) r.df _ Q ?_)
        intro m' w' v' ds' g hv hd
        refine runOps_sound hc os (i + 1) _ st' hi' (fun o ho => hok o (.tail _ ho)) he (by rw [e1]; exact k1) m' h w' _ (by rw [e1]; exact fun b h1 h2 => hf b (Nat.le_trans k2 h1) h2) (r.of_go g hv hd hb) Q ?_
        rw [e1]
        intro m2 w2 a2 g2 r2
        exact hQ m2 w2 a2 (g.trans g2) r2
      · cases he

/-- A region: what it comes to. -/
def RegionGoal (P : Program) (n : Nat) (id : Nat) (ops : Array Oper) (draw : Bool) (st st' : St) : Prop :=
  st'.hp.ok ∧ st.hp.sz ≤ st'.hp.sz ∧ ∀ (m : BM) (h : HG) (w : World) (a : Act), (∀ b, st.hp.sz ≤ b → b < st'.hp.sz → h b = none) → Rel n m h w st a →
    ∀ (Q : Exit → Act → World → Prop), (∀ m' w' a', Go1 m (ovr st.hp h) w m' (ovr st'.hp h) w' → Rel n m' h w' st' a' → Q .normal a' w') → (Code.region id ops draw).wp P Q a w

theorem region_plain {call : CallF} (hc : CallOk P call) {ops : Array Oper} {n id : Nat} {st st' : St} (hok : ops.toList.all (okOp n) = true) (he : runOps P call ops ops.toList st = some st') (hk : st.hp.ok) : RegionGoal P n id ops false st st' := by
  obtain ⟨k1, k2⟩ := runOps_ok hc _ _ _ he hk
  refine ⟨k1, k2, fun m h w a hf r Q hQ => wp_region ?_⟩
  have := runOps_sound hc ops.toList 0 st st' rfl (fun o ho => List.all_eq_true.1 hok o ho) he hk m h w a hf r Q hQ
  rw [List.range_eq_range']
  simpa using this
end
end Go.Proofs.Ytjecepaaalfilaa.AI
