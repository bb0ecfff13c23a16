/- A logic of functions: segments by the abstract interpreter, loops by induction, new numberings in between. -/
import Derived.Test.YtjecepaaalfilaaAi26
set_option linter.unusedVariables false
set_option linter.unusedSimpArgs false
namespace Go.Proofs.Ytjecepaaalfilaa.AI
open Go Go.RowKit

/-- From a frame told by st this code ends as Q says. -/
def FRwp (P : Program) (N : Nat) (W : World) (c : Code) (st : St) (Q : Exit → St → Prop) : Prop :=
  ∀ a w m, FR N W st a w m → c.wp P (fun e a' w' => ∃ st' m', FR N W st' a' w' m' ∧ Q e st') a w

section
variable {P : Program} {N : Nat} {W : World}

theorem FRwp.mono {c : Code} {st : St} {Q Q' : Exit → St → Prop} (h : FRwp P N W c st Q) (hq : ∀ e st', Q e st' → Q' e st') : FRwp P N W c st Q' := fun a w m f =>
  wp_mono (h a w m f) fun e a' w' hh => by
    obtain ⟨st', m', f', q⟩ := hh
    exact ⟨st', m', f', hq e st' q⟩
theorem FRwp.run {call : CallF} (hc : CallOk P call) (hm : P.follows .mixedOrders = true) {n : Nat} {c : Code} {st st' : St} {e : Exit} (he : exec P call n c st = some (e, st')) (hs : codeSafe P N c = true) {Q : Exit → St → Prop} (hq : Q e st') : FRwp P N W c st Q := fun a w m f =>
  wp_mono (seg hc hm he hs f) fun e' a' w' hh => by
    obtain ⟨rfl, m', f'⟩ := hh
    exact ⟨st', m', f', hq⟩
theorem FRwp.runQ {call : CallF} (hc : CallOk P call) (hm : P.follows .mixedOrders = true) {n : Nat} {c : Code} {cl : List (Tmp × Value)} {st st' : St} {e : Exit} {q : List Obl} (he : execQ P call cl n c st = some (e, st', q)) (hm' : Met q) (hs : codeSafe P N c = true) {Q : Exit → St → Prop} (hq : Q e st') : FRwp P N W c st Q :=
  FRwp.run hc hm (execQ_ok he hm') hs hq
theorem FRwp.seq {x y : Code} {st : St} {Q1 Q : Exit → St → Prop} (h1 : FRwp P N W x st Q1) (h2 : ∀ st', Q1 .normal st' → FRwp P N W y st' Q) (h3 : ∀ e st', e ≠ .normal → Q1 e st' → Q e st') : FRwp P N W (.seq x y) st Q := fun a w m f => by
  refine wp_seq (wp_mono (h1 a w m f) fun e a' w' hh => ?_)
  obtain ⟨st', m', f', q⟩ := hh
  cases e with
  | normal => exact h2 st' q a' w' m' f'
  | _ => exact ⟨st', m', f', h3 _ st' (by simp) q⟩
theorem FRwp.block {id : Nat} {x : Code} {st : St} {Q : Exit → St → Prop} (h : FRwp P N W x st fun e st' => match e with | .exit i => if i = id then Q .normal st' else Q (.exit i) st' | e => Q e st') : FRwp P N W (.block id x) st Q := fun a w m f => by
  refine wp_block (wp_mono (h a w m f) fun e a' w' hh => ?_)
  obtain ⟨st', m', f', q⟩ := hh
  cases e with
  | exit i =>
    show (if i = id then _ else _)
    by_cases hi : i = id
    · simp only [hi, if_true] at q ⊢
      exact ⟨st', m', f', q⟩
    · simp only [hi, if_false] at q ⊢
      exact ⟨st', m', f', q⟩
  | _ => exact ⟨st', m', f', q⟩
theorem FRwp.cond_true {x : Operand} {y z : Code} {st : St} {Q : Exit → St → Prop} (hx : okConst x = true) (hv : st.eval x = .bool true) (h : FRwp P N W y st Q) : FRwp P N W (.cond x y z) st Q := fun a w m f => by
  refine wp_cond_true ?_ (h a w m f)
  have := f.rel.tm.eval hx
  rw [hv] at this
  exact this.of_bool
theorem FRwp.cond_false {x : Operand} {y z : Code} {st : St} {Q : Exit → St → Prop} (hx : okConst x = true) (hv : st.eval x = .bool false) (h : FRwp P N W z st Q) : FRwp P N W (.cond x y z) st Q := fun a w m f => by
  refine wp_cond_false ?_ (h a w m f)
  have := f.rel.tm.eval hx
  rw [hv] at this
  exact this.of_bool
theorem FRwp.scope {x : Code} {st : St} {Q : Exit → St → Prop} (h : FRwp P N W x st fun e st' => (∀ l, e ≠ .goto l) ∧ Q e st') : FRwp P N W (.scope x) st Q := fun a w m f => by
  refine wp_scope_straight (wp_mono (h a w m f) fun e a' w' hh => ?_)
  obtain ⟨st', m', f', q1, q⟩ := hh
  cases e with
  | goto l => exact absurd rfl (q1 l)
  | _ => exact ⟨st', m', f', q⟩
theorem rounds_up {c : Code} {Q : Exit → Act → World → Prop} : ∀ n a w, Code.rounds P c Q n a w → Code.rounds P c Q (n + 1) a w
  | 0, _, _, h => h.elim
  | n + 1, a, w, h => by
    rw [rounds_succ] at h ⊢
    refine wp_mono h fun e a' w' q => ?_
    cases e with
    | normal => exact rounds_up n a' w' q
    | _ => exact q
theorem rounds_le {c : Code} {Q : Exit → Act → World → Prop} {n n' : Nat} {a : Act} {w : World} (h : n ≤ n') (k : Code.rounds P c Q n a w) : Code.rounds P c Q n' a w := by
  induction n' with
  | zero =>
    have : n = 0 := by omega
    subst this; exact k
  | succ n' ih =>
    rcases Nat.lt_or_ge n' n with q | q
    · have : n = n' + 1 := by omega
      subst this; exact k
    · exact rounds_up n' a w (ih q)
/-- A loop, by what is left to be done. -/
theorem FRwp.loop {x : Code} {Q : Exit → St → Prop} (I : Nat → St → Prop) (hI : ∀ k st, I k st → FRwp P N W x st fun e st' => (e = .normal ∧ ∃ k', k' < k ∧ I k' st') ∨ (e ≠ .normal ∧ Q e st')) {k : Nat} {st : St} (h : I k st) : FRwp P N W (.loop x) st Q := fun a w m f => by
  have key : ∀ k st a w m, I k st → FR N W st a w m → Code.rounds P x (fun e a' w' => ∃ st' m', FR N W st' a' w' m' ∧ Q e st') (k + 1) a w := by
    intro k
    induction k using Nat.strongRecOn with
    | _ k ih =>
      intro st a w m hi f
      rw [rounds_succ]
      refine wp_mono (hI k st hi a w m f) fun e a' w' hh => ?_
      obtain ⟨st', m', f', q⟩ := hh
      rcases q with ⟨rfl, k', hk, hi'⟩ | ⟨hne, q⟩
      · exact rounds_le (show k' + 1 ≤ k by omega) (ih k' hk st' a' w' m' hi' f')
      · cases e with
        | normal => exact absurd rfl hne
        | _ => exact ⟨st', m', f', q⟩
  exact wp_loop_rounds (k + 1) (key k st a w m h f)
/-- A new numbering. -/
theorem FRwp.canon {c : Code} {st : St} {Q : Exit → St → Prop} (K : List Nat) (O : List Blk) (L : List (Nat × Value)) (hK : K.Nodup) (hO : O.length = K.length)
    (hB : ∀ (i b : Nat) (o2 : Blk), K[i]? = some b → O[i]? = some o2 → ∃ o, st.hp.get b = some o ∧ BSame o o2)
    (hL : ∀ p ∈ L, p.1 < N ∧ nice (st.tget p.1) = true ∧ p.2 = ren K (st.tget p.1)) (hd : st.df = [])
    (h : ∀ g, FRwp P N W c ⟨mkT (frame g L) N, heapOf (O ++ [.dead]) hp0, []⟩ Q) : FRwp P N W c st Q := fun a w m f => by
  obtain ⟨g, m2, f2⟩ := f.canon K O L hK hO hB hL hd
  exact h g a w m2 f2

/-- A function's body, told so. -/
theorem fn_of {f : FuncId} {fn : Func} {c : Code} {args : List Value} {args' : Array Value} {hp : Hp} {m : BM} {R : Value → St → Prop} (hf : P.funcs[f]? = some fn) (hb : fn.body = some c) (hn : args.length ≤ fn.ntmps) (hk : hp.ok)
    (s : Sim m hp.get W) (ro : ∀ b, rw? hp.get b = false) (r : VRelL m hp.get args args'.toList)
    (h : FRwp P fn.ntmps W c ⟨tmsOf args 0 .leaf, hp, []⟩ fun e st => (e = .normal ∨ e = .ret) ∧ st.df = [] ∧ ∃ v, retVal P fn st = some v ∧ R v st) :
    Calls P f args' W fun e w' => ∃ v' v st' m', e = .returned v' ∧ R v st' ∧ VRel m' st'.hp.get v v' ∧ Sim m' st'.hp.get w' ∧ st'.hp.ok ∧ Below W.heap.size W w' ∧ (∀ b x, m' b = some x → rw? st'.hp.get b = true → W.heap.size ≤ x.1) := by
  refine calls_of_wp hf hb (wp_mono (h _ W m ⟨hk, ⟨by rw [ovr_hg0 hk]; exact s, by rw [ovr_hg0 hk]; exact args_rel r hn, .nil⟩, Below.refl _ _, fun b x _ hr => by rw [ro b] at hr; cases hr⟩) fun e a' w' hh => ?_)
  obtain ⟨st', m', f', q1, q2, v, q3, q4⟩ := hh
  have hd : a'.defers = [] := by
    have := f'.rel.df
    rw [q2] at this
    exact this.of_nil
  obtain ⟨v', h1, h2⟩ := retVal_sound f'.ok f'.rel.sim f'.rel.tm q3
  have e1 := ovr_hg0 f'.ok
  have hs := f'.rel.sim
  rw [e1] at h2 hs
  rcases q1 with rfl | rfl
  · exact ⟨hd, v', h1, v', v, st', m', rfl, q4, h2, hs, f'.ok, f'.below, f'.own⟩
  · exact ⟨hd, v', h1, v', v, st', m', rfl, q4, h2, hs, f'.ok, f'.below, f'.own⟩
end
end Go.Proofs.Ytjecepaaalfilaa.AI
