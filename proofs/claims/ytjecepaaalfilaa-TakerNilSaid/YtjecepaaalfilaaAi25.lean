/- Functions whose answer is told: of arguments without addresses, and nothing of memory is turned. -/
import Derived.Test.YtjecepaaalfilaaAi24
set_option linter.unusedVariables false
set_option linter.unusedSimpArgs false
namespace Go.Proofs.Ytjecepaaalfilaa.AI
open Go Go.RowKit

def flatD : Value → Bool
  | .agg cs => cs.toList.all flat
  | v => flat v
abbrev Hooks := List (FuncId × (List Value → Option Value))
def hookOf : Hooks → FuncId → Option (List Value → Option Value)
  | [], _ => none
  | (g, k) :: r, f => match Nat.beq g f with
    | true => some k
    | false => hookOf r f
def extH (P : Program) (hs : Hooks) : Ext := fun f => match hookOf hs f with
  | some g => some fun _ args h => (g args).map fun v => (v, h)
  | none => extOf P f

/-- What is asked of a function that is told. -/
structure HookGoal (P : Program) (f : FuncId) (g : List Value → Option Value) : Prop where
  fn : ∃ fn, P.funcs[f]? = some fn ∧ fnSafe P fn = true
  flats : ∀ args v, g args = some v → args.all flatD = true ∧ flatD v = true
  run : ∀ args v, g args = some v → ∀ w, Calls P f args.toArray w fun e w' => e = .returned v ∧ Below w.heap.size w w'

section
variable {P : Program}
theorem VRel.of_flatD {m : BM} {h : HG} {v v' : Value} (hf : flatD v = true) (r : VRel m h v v') : v' = v := by
  cases v with
  | agg cs =>
    obtain ⟨a', rfl, r2⟩ := r.of_agg
    have := VRelL.of_flats (by simpa [flatD] using hf) r2.toList
    congr 1
    cases a'; cases cs; simp_all
  | _ => exact r.of_flat (by simpa [flatD] using hf)
theorem VRelL.of_flatDs {m : BM} {h : HG} : ∀ {as bs : List Value}, as.all flatD = true → VRelL m h as bs → bs = as
  | [], bs, _, r => r.of_nil
  | a :: as, bs, hf, r => by
    obtain ⟨b, bs', rfl, h1, h2⟩ := r.of_cons
    simp only [List.all_cons, Bool.and_eq_true] at hf
    rw [h1.of_flatD hf.1, VRelL.of_flatDs hf.2 h2]
theorem VRel.flatD {m : BM} {h : HG} {v : Value} (hf : AI.flatD v = true) : VRel m h v v := by
  cases v with
  | agg cs =>
    have := VRelL.flats (m := m) (h := h) (as := cs.toList) (by simpa [AI.flatD] using hf)
    simpa using VRel.agg' this
  | _ => exact .flat (by simpa [AI.flatD] using hf)
theorem VRelL.flatDs {m : BM} {h : HG} : ∀ {as : List Value}, as.all AI.flatD = true → VRelL m h as as
  | [], _ => .nil
  | a :: as, hf => by
    simp only [List.all_cons, Bool.and_eq_true] at hf
    exact .cons (VRel.flatD hf.1) (VRelL.flatDs hf.2)

/-- New blocks that nobody knows. -/
theorem go_below {m : BM} {h : HG} {w w' : World} (s : Sim m h w) (b : Below w.heap.size w w') : Go1 m h w m h w' := by
  refine ⟨Le.refl _ _, ⟨fun c x hx => ?_, s.inj⟩, b.size, fun _ _ hx => .inl hx, fun r hr _ => b.block r hr, fun _ _ _ hm => hm, fun _ _ ho _ => ho, fun _ o ho => ⟨o, ho⟩, fun _ _ _ hr => hr, b.os, b.tape, b.output⟩
  obtain ⟨o, ho, hr⟩ := s.dom c x hx
  refine ⟨o, ho, ?_⟩
  by_cases hd : o = .dead
  · subst hd; trivial
  · refine hr.mono (Le.refl _ _) (b.block _ (s.lt hx ?_))
    unfold live?; rw [ho]; cases o <;> simp_all

theorem hook_call {f : FuncId} {g : List Value → Option Value} (hg : HookGoal P f g) : CallGoal P f (fun args h => (g args).map fun v => (v, h)) := by
  intro args hp v hp' he hk
  obtain ⟨v0, hv, e⟩ := Option.map_eq_some_iff.1 he
  cases e
  obtain ⟨q1, q2⟩ := hg.flats args v hv
  obtain ⟨fn, hf, hs⟩ := hg.fn
  obtain ⟨c, hb, _, hnm⟩ := fnSafe_parts hs
  refine ⟨hk, Nat.le_refl _, fun m h w args' hfr s r => .inr ⟨run_callFunc hf (by rw [hb]; rfl) hnm, ?_⟩⟩
  have ha : args' = args.toArray := by
    have := VRelL.of_flatDs q1 r
    cases args'; simp_all
  subst ha
  refine (hg.run args v hv w).mono fun e w' hh => ?_
  exact ⟨v, hh.1, m, go_below s hh.2, VRel.flatD q2⟩

def HooksOk (P : Program) (hs : Hooks) : Prop := ∀ p ∈ hs, HookGoal P p.1 p.2
theorem hookOf_mem : ∀ {hs : Hooks} {f : FuncId} {g : List Value → Option Value}, hookOf hs f = some g → (f, g) ∈ hs
  | [], f, g, h => by cases h
  | (k, e) :: r, f, g, h => by
    unfold hookOf at h
    split at h
    · rename_i hb
      cases h
      rw [Nat.eq_of_beq_eq_true hb]
      exact .head _
    · exact .tail _ (hookOf_mem h)
theorem extH_ok {hs : Hooks} (h : HooksOk P hs) : ExtOk P (extH P hs) := by
  intro f
  unfold extH
  cases hf : hookOf hs f with
  | none => exact extOf_ok P f
  | some g => exact fun call _ => hook_call (h _ (hookOf_mem hf))
theorem HooksOk.nil : HooksOk P [] := fun p hp => by cases hp
theorem HooksOk.cons {f : FuncId} {g : List Value → Option Value} {hs : Hooks} (h : HookGoal P f g) (hr : HooksOk P hs) : HooksOk P ((f, g) :: hs) := fun p hp => by
  cases hp with
  | head => exact h
  | tail _ hp => exact hr p hp

/-- A call, from beginning to end, whatever is told apart. -/
theorem call_soundX {ext : Ext} (hx : ExtOk P ext) (hm : P.follows .mixedOrders = true) {n : Nat} {f : FuncId} {args : List Value} {hp hp' : Hp} {v : Value} (he : aCall P ext n f args hp = some (v, hp')) (hk : hp.ok)
    {m : BM} {w : World} {args' : Array Value} (s : Sim m hp.get w) (r : VRelL m hp.get args args'.toList) {fn : Func} (hf : P.funcs[f]? = some fn) (hb : fn.body.isSome = true) :
    Calls P f args' w fun e w' => ∃ v', e = .returned v' ∧ ∃ m', Go1 m hp.get w m' hp'.get w' ∧ VRel m' hp'.get v v' := by
  obtain ⟨k1, k2, k3⟩ := aCall_sound hx hm n f args hp v hp' he hk
  have e1 : ovr hp (fun _ => none) = hp.get := by
    funext b; unfold ovr
    split
    · rfl
    · rename_i hlt; exact (hk b (by omega)).symm
  have e2 : ovr hp' (fun _ => none) = hp'.get := by
    funext b; unfold ovr
    split
    · rfl
    · rename_i hlt; exact (k1 b (by omega)).symm
  have := k3 m (fun _ => none) w args' (fun _ _ _ => rfl) (by rw [e1]; exact s) (by rw [e1]; exact r)
  rw [e1, e2] at this
  rcases this with ⟨v', w', h1, _⟩ | ⟨_, h2⟩
  · exfalso
    have hbn : fn.body.isNone = false := by cases hq : fn.body <;> simp_all
    simp only [callFunc, Sem.run_bind, run_program, Result.andThen_ok, hf, hbn, Bool.false_eq_true, if_false] at h1
    split at h1 <;> simp at h1
  · exact h2

theorem hook_of {ext : Ext} (hx : ExtOk P ext) (hm : P.follows .mixedOrders = true) {f : FuncId} {fn : Func} {g : List Value → Option Value} (hf : P.funcs[f]? = some fn) (hs : fnSafe P fn = true)
    (h : ∀ args v, g args = some v → args.all flatD = true ∧ flatD v = true ∧ ∃ n hp', aCall P ext n f args hp0 = some (v, hp')) : HookGoal P f g := by
  obtain ⟨c, hb, _, _⟩ := fnSafe_parts hs
  refine ⟨⟨fn, hf, hs⟩, fun args v hg => ⟨(h args v hg).1, (h args v hg).2.1⟩, fun args v hg w => ?_⟩
  obtain ⟨q1, q2, n, hp', he⟩ := h args v hg
  have r : VRelL bm0 hp0.get args args.toArray.toList := by simpa using VRelL.flatDs q1
  refine (call_soundX hx hm he hp0_ok sim0 r hf (by rw [hb]; rfl)).mono fun e w' hh => ?_
  obtain ⟨v', rfl, m', gg, rv⟩ := hh
  exact ⟨by rw [rv.of_flatD q2], ⟨gg.os, gg.tape, gg.output, gg.size, fun k hk => gg.frame k hk fun b x hx _ => by cases hx⟩⟩

/-- A law whose arguments have no addresses. -/
theorem walk_flat {ext : Ext} (hx : ExtOk P ext) (hm : P.follows .mixedOrders = true) {f : FuncId} {fn : Func} (hf : P.funcs[f]? = some fn) (hb : fn.body.isSome = true) {args : Array Value} (ha : args.toList.all flatD = true)
    {n : Nat} {hp' : Hp} (he : aCall P ext n f args.toList hp0 = some (.bool true, hp')) (w : World) : Calls P f args w fun e w' => e = .returned (.bool true) ∧ Below w.heap.size w w' := by
  refine (call_soundX hx hm he hp0_ok sim0 (VRelL.flatDs ha) hf hb).mono fun e w' hh => ?_
  obtain ⟨v', rfl, m', gg, rv⟩ := hh
  exact ⟨by rw [rv.of_bool], ⟨gg.os, gg.tape, gg.output, gg.size, fun k hk => gg.frame k hk fun b x hx _ => by cases hx⟩⟩
end
end Go.Proofs.Ytjecepaaalfilaa.AI
