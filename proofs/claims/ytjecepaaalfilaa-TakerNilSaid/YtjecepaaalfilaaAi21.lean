/- Soundness, 17: the functions that are told apart by name. -/
import Derived.Test.YtjecepaaalfilaaAi20
import Derived.Laws.LoneSync
import Derived.KernelRfl
set_option linter.unusedVariables false
set_option linter.unusedSimpArgs false
namespace Go.Proofs.Ytjecepaaalfilaa.AI
open Go

section
variable {P : Program} {w : World} {m : BM} {h : HG} {hp : Hp}

theorem cellAt_sound (hk : hp.ok) (s : Sim m (ovr hp h) w) {a : Addr} {v x' : Value} (he : cellAt hp a = some v) (rx : VRel m (ovr hp h) (.pointer (some a)) x') :
    ∃ a' v', x' = .pointer (some a') ∧ w.cell? a' = some v' ∧ VRel m (ovr hp h) v v' := by
  unfold cellAt at he
  obtain ⟨b, off, r, off', rfl, rfl, hh⟩ := rx.of_ptr
  split at he
  · rename_i ty cs ro hb
    have hb' := ovr_sub hk h _ _ hb
    rcases hh with hh | ⟨δ, E, hm, rfl⟩
    · dsimp only at hb'; rw [hb'] at hh; cases hh
    · obtain ⟨c, fr, h1, h2, h3, h4, _⟩ := Sim.row (s := s) hb' hm
      dsimp only at h1 h2 h3 h4 he
      have hlt : off < cs.length := (List.getElem?_eq_some_iff.1 he).1
      have hv : c[δ + off]? = some c[δ + off] := Array.getElem?_eq_getElem (by omega)
      exact ⟨_, c[δ + off], rfl, by rw [cell_of h1]; exact hv, h4 off v _ he hv⟩
  · cases he
theorem unfrozen (hk : hp.ok) (s : Sim m (ovr hp h) w) {a : Addr} {x' : Value} {ty : TypeId} {cs : List Value} {v : Value} (hb : hp.get a.block = some (.cells ty cs false)) (hv : cellAt hp a = some v) (rx : VRel m (ovr hp h) (.pointer (some a)) x') {a' : Addr} (e : x' = .pointer (some a')) : w.frozen? a' = false := by
  obtain ⟨b, off, r, off', rfl, e2, hh⟩ := rx.of_ptr
  rw [e2] at e
  cases e
  have hb' := ovr_sub hk h _ _ hb
  rcases hh with hh | ⟨δ, E, hm, rfl⟩
  · dsimp only at hb'; rw [hb'] at hh; cases hh
  · obtain ⟨c, fr, h1, h2, h3, h4, h5⟩ := Sim.row (s := s) hb' hm
    dsimp only at h1 h2 h3 h4 h5
    unfold cellAt at hv
    dsimp only at hb hv
    rw [hb] at hv
    dsimp only at hv
    have hlt : off < cs.length := (List.getElem?_eq_some_iff.1 hv).1
    exact frozen_of h1 (h5.1 rfl _ (by omega))
theorem cellPut_sound (hk : hp.ok) (s : Sim m (ovr hp h) w) {a : Addr} {v v' x' : Value} {hp' : Hp} (he : cellPut hp a v = some hp') (rx : VRel m (ovr hp h) (.pointer (some a)) x') (rv : VRel m (ovr hp h) v v') :
    ∃ a' u, x' = .pointer (some a') ∧ w.cell? a' = some u ∧ w.frozen? a' = false ∧ v'.oneCell' = true ∧ hp'.ok ∧ hp.sz = hp'.sz ∧ Go1 m (ovr hp h) w m (ovr hp' h) (w.setCell a' v') := by
  unfold cellPut at he
  obtain ⟨b, off, r, off', rfl, rfl, hh⟩ := rx.of_ptr
  split at he
  · rename_i ty cs hb
    split at he
    · rename_i hcond
      cases he
      simp only [Bool.and_eq_true, decide_eq_true_eq] at hcond
      have hb' := ovr_sub hk h _ _ hb
      rcases hh with hh | ⟨δ, E, hm, rfl⟩
      · dsimp only at hb'; rw [hb'] at hh; cases hh
      · obtain ⟨c, fr, h1, h2, h3, h4, h5⟩ := Sim.row (s := s) hb' hm
        dsimp only at h1 h2 h3 h4 h5 hb hcond hb'
        have hone := rv.isOne hcond.2
        obtain ⟨w', g1, g2⟩ := put_cells (P := default) (off := off) s hb' hm (VRelL.cons rv VRelL.nil) (by simp [hcond.2]) (by simp; omega)
        have hv : c[δ + off]? = some c[δ + off] := Array.getElem?_eq_getElem (by omega)
        have hcell : w.cell? ⟨r, δ + off, none⟩ = some c[δ + off] := by rw [cell_of h1]; exact hv
        have hfro : w.frozen? ⟨r, δ + off, none⟩ = false := frozen_of h1 (h5.1 rfl _ (by omega))
        have hw : w' = w.setCell ⟨r, δ + off, none⟩ v' := by
          simp only [storeCells, addr_add, Nat.add_zero, Sem.run_bind, run_store _ _ _ _ _ hone, hcell, hfro, Bool.false_eq_true, if_false, Result.andThen_ok, Sem.run_pure] at g1
          cases g1; rfl
        rw [hw, ovr_put (hk.lt hb)] at g2
        exact ⟨_, _, rfl, hcell, hfro, hone, hk.put _ (hk.lt hb), rfl, g2⟩
    · cases he
  · cases he
end

/-- A name's row in the model's table. -/
structure Row (n : String) (e : Array Value → Sem Value) : Prop where
  next : Extern.allNextRows.lookup n = none
  nextE : Extern.allNextRows.lookup "" = none
  gen : Extern.allGenericRows.lookup n = none
  typed : Extern.allTypedRows.lookup n = none
  row : Extern.allRows.lookup n = some e
  name : (n == "runtime.NumGoroutine") = false
theorem Row.find {n : String} {e : Array Value → Sem Value} (r : Row n e) {fn : Func} (hn : fn.name = n) (ho : fn.origin = "") : Extern.findNext fn = none ∧ Extern.find fn = some e ∧ (fn.name == "runtime.NumGoroutine") = false := by
  refine ⟨?_, ?_, by rw [hn]; exact r.name⟩
  · simp [Extern.findNext, hn, ho, r.next, r.nextE]
  · simp [Extern.find, hn, r.gen, r.typed, r.row]

def AtomGoal (n : String) (e : CallF → List Value → Hp → Option (Value × Hp)) : Prop :=
  ∀ (P : Program) (f : FuncId) (fn : Func), P.funcs[f]? = some fn → fn.name = n → fn.origin = "" → fn.body.isNone = true → ∀ call, CallGoal P f (e call)

theorem args1 {m : BM} {h : HG} {x : Value} {xs' : Array Value} (r : VRelL m h [x] xs'.toList) : ∃ x', xs' = #[x'] ∧ VRel m h x x' := by
  obtain ⟨b, bs', e, h1, h2⟩ := r.of_cons
  have := h2.of_nil
  subst this
  exact ⟨b, by cases xs'; simp_all, h1⟩
theorem args2 {m : BM} {h : HG} {x y : Value} {xs' : Array Value} (r : VRelL m h [x, y] xs'.toList) : ∃ x' y', xs' = #[x', y'] ∧ VRel m h x x' ∧ VRel m h y y' := by
  obtain ⟨b, bs', e, h1, h2⟩ := r.of_cons
  obtain ⟨c, cs', e2, h3, h4⟩ := h2.of_cons
  have := h4.of_nil
  subst this; subst e2
  exact ⟨b, c, by cases xs'; simp_all, h1, h3⟩
theorem args3 {m : BM} {h : HG} {x y z : Value} {xs' : Array Value} (r : VRelL m h [x, y, z] xs'.toList) : ∃ x' y' z', xs' = #[x', y', z'] ∧ VRel m h x x' ∧ VRel m h y y' ∧ VRel m h z z' := by
  obtain ⟨b, bs', e, h1, h2⟩ := r.of_cons
  obtain ⟨c, cs', e2, h3, h4⟩ := h2.of_cons
  obtain ⟨d, ds', e3, h5, h6⟩ := h4.of_cons
  have := h6.of_nil
  subst this; subst e3; subst e2
  exact ⟨b, c, d, by cases xs'; simp_all, h1, h3, h5⟩

theorem load_goal {n : String} {k : IntKind} (row : Row n (Extern.Atomic.loadT (.int k))) : AtomGoal n (atLoad k) := by
  intro P f fn hf hn ho hb call args hp v hp' he hk
  obtain ⟨h1, h2, h3⟩ := row.find hn ho
  unfold atLoad at he
  split at he
  · rename_i a _
    split at he
    · rename_i k' q hc
      split at he
      · rename_i e; subst e
        cases he
        refine ⟨hk, Nat.le_refl _, fun m h w args' hfr s r => .inl ?_⟩
        obtain ⟨x', rfl, rx⟩ := args1 r
        obtain ⟨a', v', rfl, c1, c2⟩ := cellAt_sound hk s hc rx
        obtain rfl := c2.of_int
        exact ⟨_, _, run_call_load hf h3 hb h1 k' h2 c1, m, Go1.refl s, .flat rfl⟩
      · cases he
    · cases he
  · cases he

theorem store_goal {n : String} (row : Row n Extern.Atomic.storeT) : AtomGoal n atStore := by
  intro P f fn hf hn ho hb call args hp v hp' he hk
  obtain ⟨h1, h2, h3⟩ := row.find hn ho
  unfold atStore at he
  split at he
  · rename_i a x _
    obtain ⟨hp1, hq, e⟩ := Option.map_eq_some_iff.1 he
    cases e
    have hk' : hp'.ok ∧ hp.sz = hp'.sz := by
      unfold cellPut at hq
      split at hq
      · rename_i hb2
        split at hq
        · cases hq; exact ⟨hk.put _ (hk.lt hb2), rfl⟩
        · cases hq
      · cases hq
    refine ⟨hk'.1, Nat.le_of_eq hk'.2, fun m h w args' hfr s r => .inl ?_⟩
    obtain ⟨x', y', rfl, rx, ry⟩ := args2 r
    obtain ⟨a', u, rfl, c1, c2, c3, c4, c5, g⟩ := cellPut_sound hk s hq rx ry
    refine ⟨.tuple #[], _, ?_, m, g, VRel.undef⟩
    rw [run_callFunc_extern hf h3 hb h1 h2]
    change (Sem.run P (do
      store (← asAddr (.pointer (some a'))) y' .atomic
      pure Extern.Atomic.none_) w).andThen _ = _
    simp [asAddr, c1, c2, run_store P w a' y' .atomic c3, Result.andThen, Extern.Atomic.none_]
  · cases he

theorem add_goal {n : String} {k : IntKind} (row : Row n (Extern.Atomic.update (Op.intArith .add) k true)) : AtomGoal n (atAdd k) := by
  intro P f fn hf hn ho hb call args hp v hp' he hk
  obtain ⟨h1, h2, h3⟩ := row.find hn ho
  unfold atAdd at he
  split at he
  · rename_i _ a k1 d
    split at he
    · rename_i k' q hc
      split at he
      · rename_i e; obtain ⟨e1, e2⟩ := e; subst e1; subst e2
        obtain ⟨hp1, hq, e⟩ := Option.map_eq_some_iff.1 he
        cases e
        have hk' : hp'.ok ∧ hp.sz = hp'.sz := by
          unfold cellPut at hq
          split at hq
          · rename_i hb2
            split at hq
            · cases hq; exact ⟨hk.put _ (hk.lt hb2), rfl⟩
            · cases hq
          · cases hq
        refine ⟨hk'.1, Nat.le_of_eq hk'.2, fun m h w args' hfr s r => .inl ?_⟩
        obtain ⟨x', y', rfl, rx, ry⟩ := args2 r
        obtain rfl := ry.of_int
        obtain ⟨a', u, rfl, c1, c2, c3, c4, c5, g⟩ := cellPut_sound hk s hq rx (.flat rfl)
        obtain ⟨a2, v2, e2, d1, d2⟩ := cellAt_sound hk s hc rx
        cases e2
        obtain rfl := d2.of_int
        exact ⟨_, _, run_call_add hf h3 hb h1 k1 h2 d1 c2 (by simp [Op.intArith, wrapF_eq]), m, g, .flat rfl⟩
      · cases he
    · cases he
  · cases he

theorem cas_goal {n : String} {k : IntKind} (row : Row n (Extern.Atomic.casT (.int k))) : AtomGoal n (atCas k) := by
  intro P f fn hf hn ho hb call args hp v hp' he hk
  obtain ⟨h1, h2, h3⟩ := row.find hn ho
  unfold atCas at he
  split at he
  · rename_i _ a k1 old k2 new
    split at he
    · rename_i k' q hc
      split at he
      · rename_i e; obtain ⟨e1, e2, e3⟩ := e; subst e1; subst e2; subst e3
        split at he
        · rename_i hd
          have hqo : q = old := of_decide_eq_true hd
          subst hqo
          obtain ⟨hp1, hq, e⟩ := Option.map_eq_some_iff.1 he
          cases e
          have hk' : hp'.ok ∧ hp.sz = hp'.sz := by
            unfold cellPut at hq
            split at hq
            · rename_i hb2
              split at hq
              · cases hq; exact ⟨hk.put _ (hk.lt hb2), rfl⟩
              · cases hq
            · cases hq
          refine ⟨hk'.1, Nat.le_of_eq hk'.2, fun m h w args' hfr s r => .inl ?_⟩
          obtain ⟨x', y', z', rfl, rx, ry, rz⟩ := args3 r
          obtain rfl := ry.of_int
          obtain rfl := rz.of_int
          obtain ⟨a', u, rfl, c1, c2, c3, c4, c5, g⟩ := cellPut_sound hk s hq rx (.flat rfl)
          obtain ⟨a2, v2, e2, d1, d2⟩ := cellAt_sound hk s hc rx
          cases e2
          obtain rfl := d2.of_int
          exact ⟨_, _, run_call_cas_hit hf h3 hb h1 _ h2 d1 c2, m, g, .flat rfl⟩
        · rename_i ty cs hd hblk
          have hqo : ¬ q = old := of_decide_eq_false hd
          cases he
          refine ⟨hk, Nat.le_refl _, fun m h w args' hfr s r => .inl ?_⟩
          obtain ⟨x', y', z', rfl, rx, ry, rz⟩ := args3 r
          obtain rfl := ry.of_int
          obtain rfl := rz.of_int
          obtain ⟨a2, v2, e2, d1, d2⟩ := cellAt_sound hk s hc rx
          have hfz := unfrozen hk s hblk hc rx e2
          subst e2
          obtain rfl := d2.of_int
          exact ⟨_, _, run_call_cas_miss hf h3 hb h1 _ h2 d1 hfz hqo, m, Go1.refl s, .flat rfl⟩
        · cases he
      · cases he
    · cases he
  · cases he

theorem none_goal {n : String} {mk : Mark} (row : Row n (fun _ => do mark mk; pure Extern.Race.none_)) : AtomGoal n noneE := by
  intro P f fn hf hn ho hb call args hp v hp' he hk
  obtain ⟨h1, h2, h3⟩ := row.find hn ho
  unfold noneE at he
  split at he
  · cases he
    refine ⟨hk, Nat.le_refl _, fun m h w args' hfr s r => .inl ?_⟩
    have : args' = #[] := by have := r.of_nil; cases args'; simp_all
    subst this
    exact ⟨_, _, run_call_mark0 hf h3 hb h1 mk h2 w, m, Go1.refl s, VRel.undef⟩
  · cases he
theorem mark_goal {n : String} {mk : Addr → Mark} (row : Row n (Extern.Race.marked mk)) : AtomGoal n markE := by
  intro P f fn hf hn ho hb call args hp v hp' he hk
  obtain ⟨h1, h2, h3⟩ := row.find hn ho
  unfold markE at he
  split at he
  · cases he
    refine ⟨hk, Nat.le_refl _, fun m h w args' hfr s r => .inl ?_⟩
    obtain ⟨x', rfl, rx⟩ := args1 r
    obtain ⟨b, off, r, off', _, rfl, _⟩ := rx.of_ptr
    exact ⟨_, _, run_call_marked hf h3 hb h1 mk h2 _ w, m, Go1.refl s, VRel.undef⟩
  · cases he
theorem stuck_goal {P : Program} {f : FuncId} {call : CallF} : CallGoal P f (stuckE call) := by
  intro args hp v hp' he; cases he

theorem atoms_ok : ∀ p ∈ atoms, AtomGoal p.1 p.2 := by
  intro p hp
  simp only [atoms, List.mem_cons, List.mem_nil_iff, or_false] at hp
  rcases hp with rfl | rfl | rfl | rfl | rfl | rfl | rfl | rfl | rfl | rfl | rfl | rfl | rfl | rfl | rfl | rfl
  · exact load_goal ⟨by kernel_rfl, by kernel_rfl, by kernel_rfl, by kernel_rfl, by kernel_rfl, by kernel_rfl⟩
  · exact load_goal ⟨by kernel_rfl, by kernel_rfl, by kernel_rfl, by kernel_rfl, by kernel_rfl, by kernel_rfl⟩
  · exact load_goal ⟨by kernel_rfl, by kernel_rfl, by kernel_rfl, by kernel_rfl, by kernel_rfl, by kernel_rfl⟩
  · exact load_goal ⟨by kernel_rfl, by kernel_rfl, by kernel_rfl, by kernel_rfl, by kernel_rfl, by kernel_rfl⟩
  · exact store_goal ⟨by kernel_rfl, by kernel_rfl, by kernel_rfl, by kernel_rfl, by kernel_rfl, by kernel_rfl⟩
  · exact store_goal ⟨by kernel_rfl, by kernel_rfl, by kernel_rfl, by kernel_rfl, by kernel_rfl, by kernel_rfl⟩
  · exact store_goal ⟨by kernel_rfl, by kernel_rfl, by kernel_rfl, by kernel_rfl, by kernel_rfl, by kernel_rfl⟩
  · exact store_goal ⟨by kernel_rfl, by kernel_rfl, by kernel_rfl, by kernel_rfl, by kernel_rfl, by kernel_rfl⟩
  · exact add_goal ⟨by kernel_rfl, by kernel_rfl, by kernel_rfl, by kernel_rfl, by kernel_rfl, by kernel_rfl⟩
  · exact add_goal ⟨by kernel_rfl, by kernel_rfl, by kernel_rfl, by kernel_rfl, by kernel_rfl, by kernel_rfl⟩
  · exact cas_goal ⟨by kernel_rfl, by kernel_rfl, by kernel_rfl, by kernel_rfl, by kernel_rfl, by kernel_rfl⟩
  · exact cas_goal ⟨by kernel_rfl, by kernel_rfl, by kernel_rfl, by kernel_rfl, by kernel_rfl, by kernel_rfl⟩
  · exact none_goal (mk := .disable) ⟨by kernel_rfl, by kernel_rfl, by kernel_rfl, by kernel_rfl, by kernel_rfl, by kernel_rfl⟩
  · exact none_goal (mk := .enable) ⟨by kernel_rfl, by kernel_rfl, by kernel_rfl, by kernel_rfl, by kernel_rfl, by kernel_rfl⟩
  · exact mark_goal (mk := .acquire) ⟨by kernel_rfl, by kernel_rfl, by kernel_rfl, by kernel_rfl, by kernel_rfl, by kernel_rfl⟩
  · exact mark_goal (mk := .releaseMerge) ⟨by kernel_rfl, by kernel_rfl, by kernel_rfl, by kernel_rfl, by kernel_rfl, by kernel_rfl⟩

theorem atomIn_mem {n : String} {e : CallF → List Value → Hp → Option (Value × Hp)} : ∀ {l : List (String × (CallF → List Value → Hp → Option (Value × Hp)))}, atomIn n l = some e → (n, e) ∈ l
  | [], h => by cases h
  | (n', e') :: l, h => by
    unfold atomIn at h
    split at h
    · rename_i hd
      cases h
      have := of_decide_eq_true hd
      subst this
      exact .head _
    · exact .tail _ (atomIn_mem h)

theorem extOf_ok (P : Program) : ExtOk P (extOf P) := by
  intro f
  unfold extOf
  cases hf : P.funcs[f]? with
  | none => exact fun call _ => stuck_goal
  | some fn =>
    simp only
    cases hb : fn.body with
    | none =>
      simp only
      cases hd : decide (fn.origin = "") with
      | false => exact fun call _ => stuck_goal
      | true =>
        simp only
        cases ha : atomIn fn.name atoms with
        | none => exact fun call _ => stuck_goal
        | some e => exact fun call _ => atoms_ok _ (atomIn_mem ha) P f fn hf rfl (of_decide_eq_true hd) (by rw [hb]; rfl) call
    | some c =>
      simp only
      cases hs : fnSafe P fn with
      | false => exact fun call _ => stuck_goal
      | true => exact ⟨fn, rfl, hs⟩

/-- A call, from beginning to end. -/
theorem call_sound {P : Program} (hm : P.follows .mixedOrders = true) {n : Nat} {f : FuncId} {args : List Value} {hp hp' : Hp} {v : Value} (he : aCall P (extOf P) n f args hp = some (v, hp')) (hk : hp.ok)
    {m : BM} {w : World} {args' : Array Value} (s : Sim m hp.get w) (r : VRelL m hp.get args args'.toList) {fn : Func} (hf : P.funcs[f]? = some fn) (hb : fn.body.isSome = true) :
    Calls P f args' w fun e w' => ∃ v', e = .returned v' ∧ ∃ m', Go1 m hp.get w m' hp'.get w' ∧ VRel m' hp'.get v v' := by
  obtain ⟨k1, k2, k3⟩ := aCall_sound (extOf_ok P) hm n f args hp v hp' he hk
  have e1 : ovr hp (fun _ => none) = hp.get := by
    funext b; unfold ovr
    split
    · rfl
    · rename_i hlt; exact (hk b (by omega)).symm
  have e2 : ovr hp' (fun _ => none) = hp'.get := by
    funext b; unfold ovr
    split
    · rfl
    · rename_i hlt; exact (k1 b (by omega)).symm
  have := k3 m (fun _ => none) w args' (fun _ _ _ => rfl) (by rw [e1]; exact s) (by rw [e1]; exact r)
  rw [e1, e2] at this
  rcases this with ⟨v', w', h1, _⟩ | ⟨_, h2⟩
  · exfalso
    have hx := extOf_ok P f
    have hbn : fn.body.isNone = false := by cases hq : fn.body <;> simp_all
    simp only [callFunc, Sem.run_bind, run_program, Result.andThen_ok, hf, hbn, Bool.false_eq_true, if_false] at h1
    split at h1 <;> simp at h1
  · exact h2
end Go.Proofs.Ytjecepaaalfilaa.AI
