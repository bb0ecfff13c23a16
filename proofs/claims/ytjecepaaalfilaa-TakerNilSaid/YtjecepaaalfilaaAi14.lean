/- Soundness, 10: one operation. -/
import Derived.Test.YtjecepaaalfilaaAi13
set_option linter.unusedVariables false
set_option linter.unusedSimpArgs false
namespace Go.Proofs.Ytjecepaaalfilaa.AI
open Go

inductive DRel (m : BM) (h : HG) : List (FuncId × List Value) → List Deferred → Prop
  | nil : DRel m h [] []
  | cons {f : FuncId} {args : List Value} {d : Deferred} {cap : Array Value} {df : List (FuncId × List Value)} {ds : List Deferred} :
      d.target = .fn (.func f) cap → VRelL m h args (d.args ++ cap).toList → DRel m h df ds → DRel m h ((f, args) :: df) (d :: ds)
theorem DRel.mono {m m' : BM} {h h' : HG} (l : Le m h m' h') {df : List (FuncId × List Value)} {ds : List Deferred} (r : DRel m h df ds) : DRel m' h' df ds := by
  induction r with
  | nil => exact .nil
  | cons h1 h2 _ ih => exact .cons h1 (h2.mono l) ih

/-- What a call comes to: of a function without a body at once, of one with a body when it has returned. -/
def CallRun (P : Program) (f : FuncId) (args : Array Value) (w : World) (R : Value → World → Prop) : Prop :=
  (∃ v' w', (callFunc f args).run P w = .ok (.value v') w' ∧ R v' w') ∨
  ((callFunc f args).run P w = .ok (.enter f args) w ∧ Calls P f args w fun e w' => ∃ v', e = .returned v' ∧ R v' w')

/-- The calls of a run are sound. -/
def CallOk (P : Program) (call : CallF) : Prop :=
  ∀ f args hp v hp', call f args hp = some (v, hp') → hp.ok → hp'.ok ∧ hp.sz ≤ hp'.sz ∧
    ∀ m h w args', (∀ b, hp.sz ≤ b → b < hp'.sz → h b = none) → Sim m (ovr hp h) w → VRelL m (ovr hp h) args args'.toList →
      CallRun P f args' w fun v' w' => ∃ m', Go1 m (ovr hp h) w m' (ovr hp' h) w' ∧ VRel m' (ovr hp' h) v v'

section
variable {P : Program} {w : World} {m : BM} {h : HG}

theorem target_sound {ρ ρ' : Operand → Value} {c : Call} {f : FuncId} {args : List Value} {type : TypeId} (he : target ρ c = some (f, args)) (hr : ∀ x ∈ c.operands.toList, VRel m h (ρ x) (ρ' x)) :
    ∃ d cap, (∀ w, (resolve ρ' c type).run P w = .ok d w) ∧ d.target = .fn (.func f) cap ∧ VRelL m h args (d.args ++ cap).toList := by
  unfold target at he
  split at he
  · rename_i f0 hcal
    have hf := hr f0 (by simp [Call.operands, hcal])
    split at he
    · rename_i g first captured hfv
      cases he
      rw [hfv] at hf
      obtain ⟨a', c', hv, h1, h2⟩ := hf.of_func
      have hargs : VRelL m h (c.args.toList.map ρ) (c.args.map ρ').toList := by
        rw [Array.toList_map]
        exact VRelL.map fun x hx => hr x (by simp only [Call.operands, hcal, Array.toList_append, List.mem_append]; exact .inr hx)
      refine ⟨⟨.fn (.func f) c', a' ++ c.args.map ρ'⟩, c', fun w => ?_, rfl, ?_⟩
      · simp only [resolve, hcal, hv, Deferred.ofValue, Sem.run_pure]
      · simp only [Array.toList_append]
        exact (h1.toList.append hargs).append h2.toList
    · cases he
  · cases he

theorem run_callFunc {f : FuncId} {fn : Func} {args : Array Value} (hf : P.funcs[f]? = some fn) (hb : fn.body.isSome = true) (hn : (fn.name == "runtime.NumGoroutine") = false) : (callFunc f args).run P w = .ok (.enter f args) w := by
  have h1 : fn.body.isNone = false := by cases hq : fn.body <;> simp_all
  simp only [callFunc, Sem.run_bind, run_program, Result.andThen_ok, hf, hn, h1, Bool.false_eq_true, if_false, Sem.run_pure]

/-- A new block at a number that is known, but not yet laid. -/
theorem mat_go {m0 : BM} {h0 : HG} {w0 : World} (g : Go1 m0 h0 w0 m h w) {sz : Nat} {o : Blk} {obj : Obj} {E : Nat} (hs : h sz = some o) (hm : m sz = none) (h0s : h0 sz = none)
    (hb : ∀ m' h', Le m h m' h' → BRel m' h' (w.alloc obj) (w.heap.size, 0, E) o) :
    Go1 m0 h0 w0 (updM m sz (w.heap.size, 0, E)) h (w.alloc obj) ∧ Le m h (updM m sz (w.heap.size, 0, E)) h := by
  have s := g.sim
  have l : Le m h (updM m sz (w.heap.size, 0, E)) h := by
    refine ⟨fun _ hd => hd, fun b y hb => .inr ?_⟩
    unfold updM
    by_cases e : b = sz
    · subst e; rw [hm] at hb; cases hb
    · rw [if_neg e]; exact hb
  have hold : ∀ k, k < w.heap.size → (w.alloc obj).heap[k]? = w.heap[k]? := fun k hk => by
    show (w.heap.push obj)[k]? = _
    rw [Array.getElem?_push, if_neg (by omega)]
  have hold2 : ∀ b x, b ≠ sz → updM m sz (w.heap.size, 0, E) b = some x → m b = some x := fun b x e hx => by simpa [updM, e] using hx
  refine ⟨⟨g.le.trans l, ⟨?_, ?_⟩, Nat.le_trans g.size (by show _ ≤ (w.heap.push obj).size; simp), ?_, ?_, ?_, g.idle, g.ex, g.rwb, g.os, g.tape, g.output⟩, l⟩
  · intro b x hx
    by_cases e : b = sz
    · subst e; simp [updM] at hx; subst hx
      exact ⟨o, hs, hb _ _ l⟩
    · have hx' := hold2 b x e hx
      obtain ⟨o', ho', hr⟩ := s.dom b x hx'
      refine ⟨o', ho', ?_⟩
      by_cases hd : o' = .dead
      · subst hd; trivial
      · refine hr.mono l (hold _ (s.lt hx' ?_))
        unfold live?; rw [ho']; cases o' <;> simp_all
  · intro b b' x x' hx hx' hr hl hxx
    by_cases e : b = sz <;> by_cases e' : b' = sz
    · rw [e, e']
    · subst e; simp [updM] at hx; subst hx
      have := s.lt (hold2 _ _ e' hx') hl
      simp at hxx; omega
    · subst e'; simp [updM] at hx'; subst hx'
      have := s.lt (hold2 _ _ e hx) (live_of_rw hr)
      simp at hxx; omega
    · exact s.inj b b' x x' (hold2 _ _ e hx) (hold2 _ _ e' hx') hr hl hxx
  · intro b x hx
    by_cases e : b = sz
    · subst e; simp [updM] at hx; subst hx
      exact .inr (.inl g.size)
    · exact g.new b x (hold2 b x e hx)
  · intro r hr hh
    rw [hold r (Nat.lt_of_lt_of_le hr g.size)]
    exact g.frame r hr hh
  · intro b o' hb' hm'
    have e : b ≠ sz := by intro e; subst e; rw [h0s] at hb'; cases hb'
    unfold updM; rw [if_neg e]; exact g.un b o' hb' hm'

/-- An operation that is taken: what it comes to in the model. -/
theorem step_sound {call : CallF} (hc : CallOk P call) {o : Oper} {st : St} {v : Value} {hp' : Hp} {df' : List (FuncId × List Value)} (he : aStep P call o st = some (v, hp', df')) (hok : st.hp.ok) :
    hp'.ok ∧ st.hp.sz ≤ hp'.sz ∧ ∀ (m : BM) (h : HG) (w : World) (a : Act), (∀ b, st.hp.sz ≤ b → b < hp'.sz → h b = none) → Sim m (ovr st.hp h) w →
      (∀ x ∈ o.op.operands.toList, VRel m (ovr st.hp h) (st.eval x) (a.eval x)) → DRel m (ovr st.hp h) st.df a.defers →
      ∀ (next : Act → World → Prop) (Q : Exit → Act → World → Prop),
        (∀ m' w' v' ds', Go1 m (ovr st.hp h) w m' (ovr hp' h) w' → VRel m' (ovr hp' h) v v' → DRel m' (ovr hp' h) df' ds' → next ({ a with defers := ds' }.put o.dst v') w') →
        o.wp P a w next Q := by
  unfold aStep at he
  split at he
  · -- without memory
    split at he
    · rename_i v0 hop
      cases he
      refine ⟨hok, Nat.le_refl _, fun m h w a hfr s hr hd next Q hn => ?_⟩
      obtain ⟨v', h1, h2⟩ : LaysN P m (ovr st.hp h) w st.hp.sz none v _ := opP_sound hop hr
      unfold Oper.wp
      rw [h1, Oper.upon_value]
      exact hn m w v' a.defers (Go1.refl s) h2 hd
    · rename_i v0 b hop
      cases he
      refine ⟨hok.push b, Nat.le_succ _, fun m h w a hfr s hr hd next Q hn => ?_⟩
      obtain ⟨v', obj, E, h1, h2, h3⟩ : LaysN P m (ovr st.hp h) w st.hp.sz (some b) v _ := opP_sound hop hr
      have hnone : ovr st.hp h st.hp.sz = none := by
        unfold ovr; rw [if_neg (Nat.lt_irrefl _)]
        exact hfr _ (Nat.le_refl _) (Nat.lt_succ_self _)
      have g := push_go (E := E) s hnone h3
      rw [ovr_push] at g h2
      unfold Oper.wp
      rw [h1, Oper.upon_value]
      exact hn _ _ v' a.defers g h2 (hd.mono g.le)
    · cases he
  · -- reads
    split at he
    · rename_i v0 hop
      cases he
      refine ⟨hok, Nat.le_refl _, fun m h w a hfr s hr hd next Q hn => ?_⟩
      obtain ⟨v', h1, h2⟩ := opR_sound s (opR_mono (ovr_sub hok h) hop) hr
      unfold Oper.wp
      rw [h1, Oper.upon_value]
      exact hn m w v' a.defers (Go1.refl s) h2 hd
    · cases he
  · -- all the rest
    split at he
    · rename_i v0 es hop
      cases he
      have hputs : ∀ b o, Eff.put b o ∈ es → b < st.hp.sz := fun b o hm => by
        obtain ⟨o', ho⟩ := (opB_mono (g' := st.hp.get) (fun _ _ hh => hh) hop).2 b o hm
        exact hok.lt ho
      refine ⟨hok.eff es hputs, Hp.eff_sz es _, fun m h w a hfr s hr hd next Q hn => ?_⟩
      have hnone : (∃ o, Eff.push o ∈ es) → ovr st.hp h st.hp.sz = none := fun hp => by
        unfold ovr; rw [if_neg (Nat.lt_irrefl _)]
        exact hfr _ (Nat.le_refl _) (Hp.eff_push es _ hp)
      obtain ⟨w', m', g, hh⟩ := opB_sound s hnone (opB_mono (ovr_sub hok h) hop).1 hr
      rw [ovr_eff es hputs] at g hh
      unfold Oper.wp
      rcases hh with ⟨v', h1, h2⟩ | ⟨h1, rfl⟩
      · rw [h1, Oper.upon_value]
        exact hn m' w' v' a.defers g h2 (hd.mono g.le)
      · rw [h1, Oper.upon_skip]
        exact hn m' w' undef a.defers g VRel.undef (hd.mono g.le)
    · split at he
      · rename_i c hoc
        split at he
        · rename_i f args ht
          split at he
          · rename_i v1 h1 hcall
            cases he
            obtain ⟨k1, k2, k3⟩ := hc f args st.hp v hp' hcall hok
            refine ⟨k1, k2, fun m h w a hfr s hr hd next Q hn => ?_⟩
            obtain ⟨d, cap, hres, htar, hargs⟩ := target_sound (P := P) (type := o.type) ht (fun x hx => hr x (by rw [hoc]; exact hx))
            have hrun : (execOp a.eval o).run P w = (callFunc f (d.args ++ cap)).run P w := by
              simp only [execOp, hoc, Sem.run_bind, hres, Result.andThen_ok, htar, invoke]
            unfold Oper.wp
            rw [hrun]
            rcases k3 m h w _ hfr s hargs with ⟨v', w', h2, m', g, h3⟩ | ⟨h2, h3⟩
            · rw [h2, Oper.upon_value]
              exact hn m' w' v' a.defers g h3 (hd.mono g.le)
            · rw [h2, Oper.upon_enter]
              refine h3.mono fun e w' hh => ?_
              obtain ⟨v', rfl, m', g, h4⟩ := hh
              exact hn m' w' v' a.defers g h4 (hd.mono g.le)
          · cases he
        · cases he
      · rename_i c hoc
        split at he
        · rename_i f args ht
          cases he
          refine ⟨hok, Nat.le_refl _, fun m h w a hfr s hr hd next Q hn => ?_⟩
          obtain ⟨d, cap, hres, htar, hargs⟩ := target_sound (P := P) (type := o.type) ht (fun x hx => hr x (by rw [hoc]; exact hx))
          have hrun : (execOp a.eval o).run P w = .ok (.defer d) w := by
            simp only [execOp, hoc, Sem.run_bind, hres, Result.andThen_ok, Sem.run_pure]
          unfold Oper.wp
          rw [hrun, Oper.upon_defer]
          exact hn m w undef (d :: a.defers) (Go1.refl s) VRel.undef (.cons htar hargs hd)
        · cases he
      · cases he
end
end Go.Proofs.Ytjecepaaalfilaa.AI
