/- Pinned frames: a function that writes a row of its caller's in place. Block 0 stays the same one through the run. -/
import Derived.Test.YtgeoommlmddgpaaAi39
set_option linter.unusedVariables false
set_option linter.unusedSimpArgs false
namespace Go.Proofs.Ytgeoommlmddgpaa.AI
open Go Go.RowKit

structure FRq (n : Nat) (W : Base) (x : Nat × Nat × Nat) (st : St) (a : Act) (w : World) (m : BM) : Prop where
  fr : FR n W st a w m
  pin : st.hp.get 0 = some .dead ∨ m 0 = some x
/-- A piece of a pinned frame. -/
def FRp (P : Program) (N : Nat) (W : Base) (x : Nat × Nat × Nat) (c : Code) (st : St) (Q : Exit → St → Prop) : Prop :=
  ∀ a w m, FRq N W x st a w m → c.wp P (fun e a' w' => ∃ st' m', FRq N W x st' a' w' m' ∧ Q e st') a w
section
variable {P : Program} {N : Nat} {W : Base} {x : Nat × Nat × Nat}
theorem FRp.mono {c : Code} {st : St} {Q Q' : Exit → St → Prop} (h : FRp P N W x c st Q) (hq : ∀ e st', Q e st' → Q' e st') : FRp P N W x c st Q' := fun a w m f =>
  wp_mono (h a w m f) fun e a' w' hh => by
    obtain ⟨st', m', f', q⟩ := hh
    exact ⟨st', m', f', hq e st' q⟩
theorem FRp.seq {c d : Code} {st : St} {Q1 Q : Exit → St → Prop} (h1 : FRp P N W x c st Q1) (h2 : ∀ st', Q1 .normal st' → FRp P N W x d st' Q) (h3 : ∀ e st', e ≠ .normal → Q1 e st' → Q e st') : FRp P N W x (.seq c d) st Q := fun a w m f => by
  refine wp_seq (wp_mono (h1 a w m f) fun e a' w' hh => ?_)
  obtain ⟨st', m', f', q⟩ := hh
  cases e with
  | normal => exact h2 st' q a' w' m' f'
  | _ => exact ⟨st', m', f', h3 _ st' (by simp) q⟩
theorem FRp.block {id : Nat} {c : Code} {st : St} {Q : Exit → St → Prop} (h : FRp P N W x c st fun e st' => match e with | .exit i => if i = id then Q .normal st' else Q (.exit i) st' | e => Q e st') : FRp P N W x (.block id c) st Q := fun a w m f => by
  refine wp_block (wp_mono (h a w m f) fun e a' w' hh => ?_)
  obtain ⟨st', m', f', q⟩ := hh
  cases e with
  | exit i =>
    show (if i = id then _ else _)
    by_cases hi : i = id
    · simp only [hi, if_true] at q ⊢
      exact ⟨st', m', f', q⟩
    · simp only [hi, if_false] at q ⊢
      exact ⟨st', m', f', q⟩
  | _ => exact ⟨st', m', f', q⟩
theorem FRp.cond_true {y : Operand} {c d : Code} {st : St} {Q : Exit → St → Prop} (hx : okConst y = true) (hv : st.eval y = .bool true) (h : FRp P N W x c st Q) : FRp P N W x (.cond y c d) st Q := fun a w m f => by
  refine wp_cond_true ?_ (h a w m f)
  have := f.fr.rel.tm.eval hx
  rw [hv] at this
  exact this.of_bool
theorem FRp.cond_false {y : Operand} {c d : Code} {st : St} {Q : Exit → St → Prop} (hx : okConst y = true) (hv : st.eval y = .bool false) (h : FRp P N W x d st Q) : FRp P N W x (.cond y c d) st Q := fun a w m f => by
  refine wp_cond_false ?_ (h a w m f)
  have := f.fr.rel.tm.eval hx
  rw [hv] at this
  exact this.of_bool
theorem FRp.skip {st : St} {Q : Exit → St → Prop} (h : Q .normal st) : FRp P N W x .skip st Q := fun a w m f => wp_skip ⟨st, m, f, h⟩
/-- A loop, by what is left to be done. -/
theorem FRp.loop {c : Code} {Q : Exit → St → Prop} (I : Nat → St → Prop) (hI : ∀ k st, I k st → FRp P N W x c st fun e st' => (e = .normal ∧ ∃ k', k' < k ∧ I k' st') ∨ (e ≠ .normal ∧ Q e st')) {k : Nat} {st : St} (h : I k st) : FRp P N W x (.loop c) st Q := fun a w m f => by
  have key : ∀ k st a w m, I k st → FRq N W x st a w m → Code.rounds P c (fun e a' w' => ∃ st' m', FRq N W x st' a' w' m' ∧ Q e st') (k + 1) a w := by
    intro k
    induction k using Nat.strongRecOn with
    | _ k ih =>
      intro st a w m hi f
      rw [rounds_succ]
      refine wp_mono (hI k st hi a w m f) fun e a' w' hh => ?_
      obtain ⟨st', m', f', q⟩ := hh
      rcases q with ⟨rfl, k', hk, hi'⟩ | ⟨hne, q⟩
      · exact rounds_le (show k' + 1 ≤ k by omega) (ih k' hk st' a' w' m' hi' f')
      · cases e with
        | normal => exact absurd rfl hne
        | _ => exact ⟨st', m', f', q⟩
  exact wp_loop_rounds (k + 1) (key k st a w m h f)
/-- A segment. -/
theorem segP {call : CallF} (hc : CallOk P call) (hm : P.follows .mixedOrders = true) {n : Nat} {c : Code} {st st' : St} {e : Exit} (he : exec P call n c st = some (e, st')) (hs : codeSafe P N c = true) {w : World} {a : Act} {m : BM} (f : FRq N W x st a w m) :
    c.wp P (fun e' a' w' => e' = e ∧ ∃ m', FRq N W x st' a' w' m') a w := by
  obtain ⟨_, k1, _, k3⟩ := exec_sound hc hm n c st e st' he hs f.fr.ok
  refine wp_mono (wpR_wp (k3 m hg0 w a (fun _ _ _ => rfl) f.fr.rel)) fun e' a' w' q => ?_
  obtain ⟨q1, m', g, r⟩ := q
  refine ⟨q1, m', f.fr.go k1 g r, ?_⟩
  have le := g.le
  rw [ovr_hg0 f.fr.ok, ovr_hg0 k1] at le
  rcases f.pin with h | h
  · exact .inl (le.dead 0 h)
  · exact le.keep 0 x h
theorem FRp.pieceY0 {call : CallF} (hc : CallOk P call) (hm : P.follows .mixedOrders = true) {n : Nat} {c : Code} {st : St} {e : Exit} {Q : Exit → St → Prop} (p : Nat) (K Ts : List Nat) (O : List Blk) (L : List (Nat × Value))
    (he : (exec P call n c st).map (look2 p K Ts) = some (e, O, L, true)) (hs : codeSafe P N c = true) (hK : nodupB K = true) (hT : Ts.all (fun t => Nat.blt t N) = true)
    (hO : ∀ i, i < p → ∀ o, O[i]? = some o → Fixed 0 o) (h0 : K[0]? = some 0) (h : ∀ g, Q e (stOf N g L O)) : FRp P N W x c st Q := by
  obtain ⟨⟨e', st'⟩, h1, h2⟩ := Option.map_eq_some_iff.1 he
  simp only [look2, Prod.mk.injEq] at h2
  obtain ⟨rfl, rfl, rfl, h5⟩ := h2
  obtain ⟨h5, h7⟩ := Bool.and_eq_true_iff.1 h5
  obtain ⟨h5, h6⟩ := Bool.and_eq_true_iff.1 h5
  obtain ⟨h3, h4⟩ := Bool.and_eq_true_iff.1 h5
  intro a w m f
  refine wp_mono (segP hc hm h1 hs f) fun e2 a' w' hh => ?_
  obtain ⟨rfl, m', f'⟩ := hh
  have hlen : ((K.take p).map (fun b => (st'.hp.get b).getD .dead) ++ (K.drop p).map (fun b => renBlk K ((st'.hp.get b).getD .dead))).length = K.length := by
    simp; omega
  have hget : ∀ (i b : Nat), K[i]? = some b → ∃ o, st'.hp.get b = some o := fun i b hi => by
    have := List.all_eq_true.1 h3 b (List.mem_of_getElem? hi)
    cases hg : st'.hp.get b with
    | none => rw [hg] at this; cases this
    | some o => exact ⟨o, rfl⟩
  have hB : ∀ (i b : Nat) (o2 : Blk), K[i]? = some b → ((K.take p).map (fun b => (st'.hp.get b).getD .dead) ++ (K.drop p).map (fun b => renBlk K ((st'.hp.get b).getD .dead)))[i]? = some o2 → ∃ o, st'.hp.get b = some o ∧ o2 = renBlk K o ∧ niceBlk o = true := fun i b o2 hi ho => by
      obtain ⟨o, hg⟩ := hget i b hi
      refine ⟨o, hg, ?_⟩
      have hiK : i < K.length := (List.getElem?_eq_some_iff.1 hi).1
      by_cases hip : i < p
      · have e1 : ((K.take p).map (fun b => (st'.hp.get b).getD .dead) ++ (K.drop p).map (fun b => renBlk K ((st'.hp.get b).getD .dead)))[i]? = some o := by
          rw [List.getElem?_append_left (by simp; omega), List.getElem?_map, List.getElem?_take, if_pos hip, hi]
          simp [hg]
        rw [e1] at ho
        have e3 : o = o2 := by simpa using ho
        subst e3
        obtain ⟨k1, k2⟩ := hO i hip o e1
        exact ⟨(k2 K (fun i hi => absurd hi (Nat.not_lt_zero _))).symm, k1⟩
      · have hmin : min p K.length = p := by omega
        rw [List.getElem?_append_right (by simp; omega)] at ho
        simp only [List.length_map, List.length_take, hmin, List.getElem?_map, List.getElem?_drop] at ho
        rw [show p + (i - p) = i by omega, hi] at ho
        simp only [Option.map_some, Option.some.injEq, hg, Option.getD_some] at ho
        refine ⟨ho.symm, ?_⟩
        have hbm : b ∈ K.drop p := List.mem_of_getElem? (by rw [List.getElem?_drop, show p + (i - p) = i by omega]; exact hi)
        have := List.all_eq_true.1 h4 b hbm
        simpa [hg] using this
  obtain ⟨g, f2⟩ := f'.fr.canon3 K ((K.take p).map (fun b => (st'.hp.get b).getD .dead) ++ (K.drop p).map (fun b => renBlk K ((st'.hp.get b).getD .dead))) (Ts.map fun t => (t, ren2 K (st'.tget t))) (nodupB_ok hK) hlen hB (fun x hx => by
      obtain ⟨t, ht, rfl⟩ := List.mem_map.1 hx
      exact ⟨by have := List.all_eq_true.1 hT t ht; simpa [Nat.blt_eq] using this, List.all_eq_true.1 h6 t ht, rfl⟩) (List.isEmpty_iff.1 h7)
  refine ⟨_, _, ⟨f2, ?_⟩, h g⟩
  have hlt : 0 < K.length := (List.getElem?_eq_some_iff.1 h0).1
  rcases f'.pin with hd | hd
  · refine .inl ?_
    obtain ⟨o2, ho2⟩ : ∃ o2, ((K.take p).map (fun b => (st'.hp.get b).getD .dead) ++ (K.drop p).map (fun b => renBlk K ((st'.hp.get b).getD .dead)))[0]? = some o2 := ⟨_, List.getElem?_eq_getElem (by omega)⟩
    obtain ⟨o, q1, q2, _⟩ := hB 0 0 o2 h0 ho2
    rw [hd] at q1; cases q1
    show (heapOf _ hp0).get 0 = _
    rw [heapOf_get]
    simp only [hp0, Nat.not_lt_zero, if_false, Nat.sub_zero]
    rw [List.getElem?_append_left (by omega), ho2, q2]
    rfl
  · refine .inr ?_
    unfold canM
    rw [h0]
    exact hd
/-- A piece; the first p blocks stay what they are under whatever number, and block 0 stays block 0. -/
theorem FRp.piece {call : CallF} (hc : CallOk P call) (hm : P.follows .mixedOrders = true) {n : Nat} {c : Code} {cl : List (Tmp × Value)} {ch : ClH} {ce : ClE} {st : St} {e : Exit} {q : List Obl} {r : List OblH} {y : List OblE} {Q : Exit → St → Prop} (p : Nat) (K Ts : List Nat) (O : List Blk) (L : List (Nat × Value))
    (he : (execE P call cl ch ce n c st).map (fun y => (look2 p K Ts (y.1, y.2.1), y.2.2)) = some ((e, O, L, true), q, r, y)) (hq : Met q) (hr : MetH r) (hx : MetE y) (hs : codeSafe P N c = true) (hK : nodupB K = true) (hT : Ts.all (fun t => Nat.blt t N) = true)
    (hO : ∀ i, i < p → ∀ o, O[i]? = some o → Fixed 0 o) (h0 : K[0]? = some 0) (h : ∀ g, Q e (stOf N g L O)) : FRp P N W x c st Q := by
  obtain ⟨⟨e', st', q', r', x'⟩, h1, h2⟩ := Option.map_eq_some_iff.1 he
  simp only [Prod.mk.injEq] at h2
  obtain ⟨h2, rfl, rfl, rfl⟩ := h2
  refine FRp.pieceY0 hc hm (n := n) p K Ts O L ?_ hs hK hT hO h0 h
  rw [execE_ok h1 hq hr hx]
  exact congrArg some h2
/-- A function's body, told so; its first block is the row x, which may be written. -/
theorem fn_ofP {w0 : World} {f : FuncId} {fn : Func} {c : Code} {args : List Value} {args' : Array Value} {hp : Hp} {m : BM} {R : Value → St → Prop} (hf : P.funcs[f]? = some fn) (hb : fn.body = some c) (hn : args.length ≤ fn.ntmps) (hk : hp.ok)
    (s : Sim m hp.get w0) (h0 : m 0 = some x) (ro : ∀ b y, m b = some y → rw? hp.get b = true → y.1 = x.1) (r : VRelL m hp.get args args'.toList)
    (h : FRp P fn.ntmps ⟨w0, fun k => k = x.1⟩ x c ⟨tmsOf args 0 .leaf, hp, []⟩ fun e st => (e = .normal ∨ e = .ret) ∧ st.df = [] ∧ ∃ v, retVal P fn st = some v ∧ R v st) :
    Calls P f args' w0 fun e w' => ∃ v' v st' m', e = .returned v' ∧ R v st' ∧ VRel m' st'.hp.get v v' ∧ Sim m' st'.hp.get w' ∧ Keeps ⟨w0, fun k => k = x.1⟩ w' ∧ (st'.hp.get 0 = some .dead ∨ m' 0 = some x) := by
  refine calls_of_wp hf hb (wp_mono (h _ w0 m ⟨⟨hk, ⟨by rw [ovr_hg0 hk]; exact s, by rw [ovr_hg0 hk]; exact args_rel r hn, .nil⟩, Keeps.refl _ _, fun b y hx hr => .inr (ro b y hx hr)⟩, .inr h0⟩) fun e a' w' hh => ?_)
  obtain ⟨st', m', f', q1, q2, v, q3, q4⟩ := hh
  have hd : a'.defers = [] := by
    have := f'.fr.rel.df
    rw [q2] at this
    exact this.of_nil
  obtain ⟨v', h1, h2⟩ := retVal_sound f'.fr.ok f'.fr.rel.sim f'.fr.rel.tm q3
  have e1 := ovr_hg0 f'.fr.ok
  have hs := f'.fr.rel.sim
  rw [e1] at h2 hs
  rcases q1 with rfl | rfl
  · exact ⟨hd, v', h1, v', v, st', m', rfl, q4, h2, hs, f'.fr.below, f'.pin⟩
  · exact ⟨hd, v', h1, v', v, st', m', rfl, q4, h2, hs, f'.fr.below, f'.pin⟩
/-- A caller's row, written by a function it has called. -/
theorem putIn_go {m m' : BM} {hp hpR : Hp} {h : HG} {w w' : World} (hk : hp.ok) (s : Sim m (ovr hp h) w) {b : Nat} {ty : TypeId} {L L' : List Value} (hb : hp.get b = some (.cells ty L false)) (hx : m b = some x) (kp : Keeps ⟨w, fun k => k = x.1⟩ w')
    (hsim : Sim m' hpR.get w') (h0 : m' 0 = some x) (hg0 : hpR.get 0 = some (.cells ty L' false)) (iL : L'.all inert = true) : Go1 m (ovr hp h) w m (ovr (hp.put b (.cells ty L' false)) h) w' := by
  have hlt := lt_of_get hk hb
  have gb := ovr_sub hk h b _ hb
  have hov : ∀ b', ovr (hp.put b (.cells ty L' false)) h b' = if b' = b then some (.cells ty L' false) else ovr hp h b' := by
    intro b'
    unfold ovr
    rw [Hp.sz_put, Hp.get_put]
    by_cases h1 : b' = b
    · subst h1; rw [if_pos hlt, if_pos rfl, if_pos rfl]
    · rw [if_neg h1, if_neg h1]
  have hrwb : rw? (ovr hp h) b = true := by unfold rw?; rw [gb]; rfl
  have le : Le m (ovr hp h) m (ovr (hp.put b (.cells ty L' false)) h) := ⟨fun b' hd => by
    rw [hov]
    by_cases h1 : b' = b
    · subst h1; rw [gb] at hd; cases hd
    · rw [if_neg h1]; exact hd, fun b' y hy => .inr hy⟩
  have hrw : ∀ b', rw? (ovr (hp.put b (.cells ty L' false)) h) b' = rw? (ovr hp h) b' := fun b' => by
    by_cases h1 : b' = b
    · subst h1; rw [hrwb]; unfold rw?; rw [hov, if_pos rfl]; rfl
    · unfold rw?; rw [hov, if_neg h1]
  have hlv : ∀ b', live? (ovr (hp.put b (.cells ty L' false)) h) b' = live? (ovr hp h) b' := fun b' => by
    by_cases h1 : b' = b
    · subst h1; unfold live?; rw [hov, if_pos rfl, gb]
    · unfold live?; rw [hov, if_neg h1]
  refine ⟨le, ⟨fun b' y hy => ?_, fun b1 b2 x1 x2 q1 q2 hr hl e => s.inj b1 b2 x1 x2 q1 q2 (by rw [← hrw]; exact hr) (by rw [← hlv]; exact hl) e⟩, kp.size, fun b' y hy => .inl hy, fun r hr hn => kp.block r hr (fun e => hn b x hx hrwb e.symm), fun _ _ _ h => h, fun b' o ho hm => ?_, fun b' o ho => ?_, fun b' y hy hr => by rw [← hrw]; exact hr, kp.os, kp.tape, kp.output⟩
  · by_cases h1 : b' = b
    · subst h1
      rw [hx] at hy; cases hy
      refine ⟨_, by rw [hov, if_pos rfl], ?_⟩
      obtain ⟨o, ho, hbr⟩ := hsim.dom 0 x h0
      rw [hg0] at ho; cases ho
      obtain ⟨c, fr, q1, q2, q3, q4, q5⟩ := hbr
      exact ⟨c, fr, q1, q2, q3, fun i v v' p1 p2 => inert_any (List.all_eq_true.1 iL v (List.mem_of_getElem? p1)) (q4 i v v' p1 p2), q5⟩
    · obtain ⟨o, ho, hbr⟩ := s.dom b' y hy
      refine ⟨o, by rw [hov, if_neg h1]; exact ho, ?_⟩
      by_cases hl : live? (ovr hp h) b' = true
      · refine hbr.mono le (kp.block y.1 (s.lt hy hl) fun e => h1 ?_)
        exact (s.inj b b' x y hx hy hrwb hl e.symm).symm
      · cases o with
        | dead => trivial
        | cells => unfold live? at hl; rw [ho] at hl; exact absurd rfl hl
        | map => unfold live? at hl; rw [ho] at hl; exact absurd rfl hl
  · rw [hov]
    by_cases h1 : b' = b
    · subst h1; rw [hx] at hm; cases hm
    · rw [if_neg h1]; exact ho
  · by_cases h1 : b' = b
    · exact ⟨_, by rw [hov, if_pos h1]⟩
    · exact ⟨o, by rw [hov, if_neg h1]; exact ho⟩
/-- A function that writes a row of its caller's, told. -/
theorem put_goal (hm : P.follows .mixedOrders = true) {f : FuncId} {fn : Func} {c : Code} {g : HeapFn} (hf : P.funcs[f]? = some fn) (hb : fn.body = some c) (hnm : (fn.name == "runtime.NumGoroutine") = false)
    (H : ∀ args hp v hp', g args hp = some (v, hp') → hp.ok → ∃ (b : Nat) (ty : TypeId) (L L' : List Value), hp' = hp.put b (.cells ty L' false) ∧ hp.get b = some (.cells ty L false) ∧ L.all inert = true ∧ L'.all inert = true ∧
      ∀ (m : BM) (h : HG) (w : World) (args' : Array Value), Sim m (ovr hp h) w → VRelL m (ovr hp h) args args'.toList → ∃ x, m b = some x ∧
        ∃ (args0 : List Value), VRelL (canM m [b]) (heapOf [.cells ty L false, .dead] hp0).get args0 args'.toList ∧ args0.length ≤ fn.ntmps ∧
        ∀ W x, FRp P fn.ntmps W x c ⟨tmsOf args0 0 .leaf, heapOf [.cells ty L false, .dead] hp0, []⟩ fun e st => (e = .normal ∨ e = .ret) ∧ st.df = [] ∧ ∃ v0, retVal P fn st = some v0 ∧
          (∀ m h m' h' x, VRel m h v0 x → VRel m' h' v x) ∧ st.hp.get 0 = some (.cells ty L' false)) : CallGoal P f g := by
  intro args hp v hp' he hk
  obtain ⟨b, ty, L, L', rfl, hg, iL, iL', hrun⟩ := H args hp v hp' he hk
  have hlt := lt_of_get hk hg
  have hkput : (hp.put b (.cells ty L' false)).ok := fun c hc => by
    rw [Hp.sz_put] at hc
    rw [Hp.get_put, if_neg (by omega)]
    exact hk c hc
  refine ⟨hkput, by rw [Hp.sz_put]; exact Nat.le_refl _, fun m h w args' hfr s ra => .inr ⟨run_callFunc hf (by rw [hb]; rfl) hnm, ?_⟩⟩
  obtain ⟨x, hx, args0, rS, hn, hwp⟩ := hrun m h w args' s ra
  obtain ⟨r, δ, E⟩ := x
  have g1 := ovr_sub hk h b _ hg
  have sS : Sim (canM m [b]) (heapOf [.cells ty L false, .dead] hp0).get w := by
    obtain ⟨o', ho', hbr⟩ := s.dom b _ hx
    rw [g1] at ho'; cases ho'
    obtain ⟨c, fr, q1, q2, q3, q4, q5⟩ := hbr
    have e0 : (heapOf [.cells ty L false, .dead] hp0).get 0 = some (.cells ty L false) := by rw [heapOf_get]; rfl
    have cM : ∀ i y, canM m [b] i = some y → (i = 0 ∧ m b = some y) := by
      intro i y hy
      unfold canM at hy
      match i with
      | 0 => exact ⟨rfl, hy⟩
      | i + 1 => simp at hy
    refine ⟨fun i y hy => ?_, fun i i' y y' hy hy' hr hl hxx => ?_⟩
    · obtain ⟨rfl, hz⟩ := cM i y hy
      rw [hx] at hz; cases hz
      exact ⟨_, e0, c, fr, q1, q2, q3, fun i v v' p1 p2 => inert_any (List.all_eq_true.1 iL v (List.mem_of_getElem? p1)) (q4 i v v' p1 p2), q5⟩
    · obtain ⟨rfl, _⟩ := cM i y hy
      obtain ⟨rfl, _⟩ := cM i' y' hy'
      rfl
  refine (fn_ofP (x := (r, δ, E)) (R := fun v0 st => (∀ m h m' h' x, VRel m h v0 x → VRel m' h' v x) ∧ st.hp.get 0 = some (.cells ty L' false)) hf hb hn (heapOf_ok _ _ hp0_ok) sS (by unfold canM; exact hx) (fun b' y hy _ => by
      unfold canM at hy
      match b' with
      | 0 => simp at hy; rw [hx] at hy; cases hy; rfl
      | b' + 1 => simp at hy) rS (FRp.mono (hwp _ _) fun e st q => by
      obtain ⟨q1, q2, v0, q3, q4, q5⟩ := q
      exact ⟨q1, q2, v0, q3, q4, q5⟩)).mono fun e w' hh => ?_
  obtain ⟨v', v0, st', m', rfl, ⟨q4, q5⟩, rv, hs', hkp, hpin⟩ := hh
  have h0 : m' 0 = some (r, δ, E) := by
    rcases hpin with hd | hd
    · rw [q5] at hd; cases hd
    · exact hd
  exact ⟨v', rfl, m, putIn_go hk s hg hx hkp hs' h0 q5 iL', q4 _ _ _ _ _ rv⟩
end
end Go.Proofs.Ytgeoommlmddgpaa.AI
