/- The frame of a law: what its run answers, as the given statement asks it. -/
import Derived.Test.YtjecepaaalfilaaAi22
import Derived.ProofKit
import Derived.OpenShut
import Derived.Carry
set_option linter.unusedVariables false
set_option linter.unusedSimpArgs false
namespace Go.Proofs.Ytjecepaaalfilaa.AI
open Go Go.ChangeShapes Go.RowKit

section
variable {P : Program}

/-- From the abstract run to the model's: a call that writes nothing of what was there. -/
theorem walk_of (hm : P.follows .mixedOrders = true) {f : FuncId} {args : List Value} {hp hp' : Hp} {m : BM} {w : World} {args' : Array Value} (he : C P f args hp = some (.bool true, hp')) (hk : hp.ok)
    (s : Sim m hp.get w) (ro : ∀ b, rw? hp.get b = false) (r : VRelL m hp.get args args'.toList) {fn : Func} (hf : P.funcs[f]? = some fn) (hb : fn.body.isSome = true) :
    Calls P f args' w fun e w' => e = .returned (.bool true) ∧ Below w.heap.size w w' := by
  obtain ⟨n, hn⟩ := C_to he
  refine (call_sound hm hn hk s r hf hb).mono fun e w' hh => ?_
  obtain ⟨v', rfl, m', g, rv⟩ := hh
  refine ⟨by rw [rv.of_bool], ⟨g.os, g.tape, g.output, g.size, fun k hk => g.frame k hk fun b x _ hr => ?_⟩⟩
  rw [ro b] at hr; cases hr

theorem trodAll_below {H : Type} {enc : TypeId × Value → H} (hl : laidOutB P = true) {W W' : World} (hb : Below W.heap.size W W') : ∀ {ts : List TypeId} {vs : List Value} {ds : List (DataW H)} {p : List MemPlace},
    (∀ t ∈ ts, P.readableRec t = true ∧ t < P.types.size) → (∀ x ∈ p, x.block < W.heap.size) → DataW.TrodAll enc P W 0 (fun _ => true) true ts vs ds p →
    ∀ sp' : Nat → Bool, (∀ x ∈ p, sp' x.block = true) → DataW.TrodAll enc P W' 0 sp' true ts vs ds p
  | [], vs, ds, p, _, _, h, sp', _ => by
    obtain ⟨rfl, rfl, rfl⟩ := trodAll_nil h
    exact trodAll_mk0
  | t :: ts, vs, ds, p, ht, hp, h, sp', hs => by
    obtain ⟨v, vs1, d, ds1, a, b, rfl, rfl, rfl, h1, h2⟩ := trodAll_cons h
    obtain ⟨q1, q2⟩ := ht t (.head _)
    refine trodAll_cons_mk ?_ (trodAll_below hl hb (fun u hu => ht u (.tail _ hu)) (fun x hx => hp x (List.mem_append_right _ hx)) h2 sp' (fun x hx => hs x (List.mem_append_right _ hx)))
    exact WideElems.Trod_stays hl q1 q2 h1 (fun x hx => hb.same (hp x (List.mem_append_left _ hx))) (fun x hx => hs x (List.mem_append_left _ hx))

/-- What a law promises, of what its run answers. -/
theorem post_true {H : Type} {enc : TypeId × Value → H} {f : Func} {s : ChangeSpec} {apart fresh handsOn again : Bool} {W W' : World} {args : Array Value} {ds gs : List (DataW H)} {before : List MemPlace} {tb : TypeId}
    (hl : laidOutB P = true) (hp : ∀ t ∈ f.params.toList, P.readableRec t = true ∧ t < P.types.size) (hv : s.vars = []) (hr : f.resultTypes = #[tb]) (htb : P.underlying tb = some .bool)
    (hs : ∀ ds : List (DataW H), ds.length = f.params.size → s.fn H ds = { results := [.lit (.bool true)], args := ds })
    (hW : DataW.Whole enc P f.params.toList s.vars apart W args.toList ds gs before) (hb : Below W.heap.size W W') : s.post enc P f apart fresh handsOn again W args (.bool true) W' := by
  have hW' := hW
  obtain ⟨p, q, hA, hV, e1, hz, hn⟩ := hW
  rw [hv] at hV
  obtain ⟨rfl, rfl⟩ := trodVars_none hV
  have hlt : ∀ x ∈ before, x.block < W.heap.size := fun x hx => hW'.lt x hx
  rw [e1, List.append_nil] at hlt
  have hlen : ds.length = f.params.size := by
    have : ∀ {ts : List TypeId} {vs : List Value} {ds : List (DataW H)} {p : List MemPlace}, DataW.TrodAll enc P W 0 (fun _ => true) true ts vs ds p → ds.length = ts.length := by
      intro ts
      induction ts with
      | nil => intro vs ds p h; obtain ⟨rfl, rfl, rfl⟩ := trodAll_nil h; rfl
      | cons t ts ih =>
        intro vs ds p h
        obtain ⟨v, vs1, d, ds1, a, b, rfl, rfl, rfl, h1, h2⟩ := trodAll_cons h
        simp [ih h2]
    have := this hA
    simpa using this
  have hfn : s.fn H (ds ++ []) = { results := [.lit (.bool true)], args := ds } := by rw [List.append_nil]; exact hs ds hlen
  have hold : ∀ sp : Nat → Bool, (∀ x ∈ p, sp x.block = true) → DataW.TrodAll enc P W' 0 sp true f.params.toList args.toList ds p := fun sp hsp => trodAll_below hl hb hp hlt hA sp hsp
  have hres : ∀ (b : Nat) (sp : Nat → Bool) (hd : Bool), DataW.TrodAll enc P W' b sp hd f.resultTypes.toList ((Value.bool true).resultList f.resultTypes.size) (s.fn H (ds ++ [])).results [] := by
    intro b sp hd
    rw [hfn, hr]
    exact trodAll_mk1 (shut_bool htb true)
  have hfz : ∀ b off, MemPlace.cell b off ∈ p → W'.frozen? ⟨b, off, none⟩ = W.frozen? ⟨b, off, none⟩ := fun b off hx => hb.frozen (p := ⟨b, off, none⟩) (hlt _ hx)
  subst e1
  refine ⟨ds, [], p ++ [], [], p, [], hW', hres _ _ _, ?_, ?_, ?_, fun _ => ?_⟩
  · rw [hfn]; exact hold _ fun x hx => by simpa using hlt x hx
  · rw [hfn, hv]; exact rfl
  · exact hb.frame _
  · refine ⟨ok_one hr rfl (okWide_bool_mk htb true), [.lit (.bool true)] ++ ds, [], ([] ++ p) ++ [], ⟨[] ++ p, [], trodAll_append (hold _ fun _ _ => rfl) ?_, by rw [hv]; exact rfl, rfl, ?_, ?_⟩, ?_⟩
    · have := hres 0 (fun _ => true) true
      rw [hfn] at this
      exact this
    · intro b off hx
      have hx' : MemPlace.cell b off ∈ p := by simpa using hx
      rw [hfz b off hx']
      exact hz b off (by simpa using hx')
    · intro ha
      have := hn ha
      simpa using this
    · intro x hx _
      simpa using hx

/-- The row's step, of any law. -/
theorem law_lifted {C : Checked} {os : Os} (started : os.Started) {H : Type} {enc : TypeId × Value → H} {f : FuncId} {fn : Func} {s : ChangeSpec} {apart fresh handsOn again : Bool} {tb : TypeId} (own : ownKnob C.prog.godebug = none) (noInit : C.prog.inits.idxOf? f = none)
    (hf : C.prog.funcs[f]? = some fn) (hl : laidOutB C.prog = true) (hp : ∀ t ∈ fn.params.toList, C.prog.readableRec t = true ∧ t < C.prog.types.size) (hv : s.vars = []) (hr : fn.resultTypes = #[tb]) (htb : C.prog.underlying tb = some .bool)
    (hs : ∀ ds : List (DataW H), ds.length = fn.params.size → s.fn H ds = { results := [.lit (.bool true)], args := ds })
    (witness : ∃ (w : World) (tape : Tape) (i : Input), w.os = os ∧ (w.forCall tape i).Shaped C.prog ∧ i.vars = [] ∧ Input.okWide C.prog (w.forCall tape i) .any w.heap.size f i ∧
      s.pre6 enc C.prog fn [] apart (w.forCall tape i).memory i.args ∧ ({} : Assume).holds C.prog (lone (Frame.enter C.prog f i.args .normal) [] (w.forCall tape i)))
    (walk : ∀ (W : World) (base : Nat) (args : Array Value) (ds : List (DataW H)) (p : List MemPlace), args.size = fn.params.size → (∀ (j : Nat) t v, fn.params[j]? = some t → args[j]? = some v → Value.okWide C.prog W .any base t v) →
      DataW.TrodAll enc C.prog W 0 (fun _ => true) true fn.params.toList args.toList ds p → Calls C.prog f args W fun e W' => e = .returned (.bool true) ∧ Below W.heap.size W W') :
    ReturnsInHanded {} C os f .any (s.pre6 enc C.prog fn [] apart) (s.post enc C.prog fn apart fresh handsOn again) := by
  refine returnsInHanded_of_change own started noInit hf witness ?_
  intro W base args ds gs before hval hW _ _
  have hW' := hW
  obtain ⟨p, q, hA, hV, e1, hz, hn⟩ := hW
  have hsz : args.size = fn.params.size := by
    have : ∀ {ts : List TypeId} {vs : List Value} {ds : List (DataW H)} {p : List MemPlace}, DataW.TrodAll enc C.prog W 0 (fun _ => true) true ts vs ds p → vs.length = ts.length := by
      intro ts
      induction ts with
      | nil => intro vs ds p h; obtain ⟨rfl, rfl, rfl⟩ := trodAll_nil h; rfl
      | cons t ts ih =>
        intro vs ds p h
        obtain ⟨v, vs1, d, ds1, a, b, rfl, rfl, rfl, h1, h2⟩ := trodAll_cons h
        simp [ih h2]
    have := this hA
    simpa using this
  refine (walk W base args ds p hsz hval hA).mono fun e W' hh => ?_
  exact ⟨.bool true, hh.1, post_true hl hp hv hr htb hs hW' hh.2⟩

/-! ### Arguments without memory -/
def bm0 : BM := fun _ => none
def hp0 : Hp := ⟨0, .leaf⟩
theorem hp0_ok : hp0.ok := fun _ _ => rfl
theorem hp0_get : hp0.get = fun _ => none := rfl
theorem hp0_ro (b : Nat) : rw? hp0.get b = false := rfl
theorem sim0 {w : World} : Sim bm0 hp0.get w := ⟨fun b x h => (by cases h), fun b b' x x' h => (by cases h)⟩
theorem plains {m : BM} {h : HG} : ∀ {vs : List Value}, (∀ v ∈ vs, plain v = true) → VRelL m h vs vs
  | [], _ => .nil
  | v :: vs, hv => .cons (VRel.plain (hv v (.head _))) (plains fun u hu => hv u (.tail _ hu))
end
end Go.Proofs.Ytjecepaaalfilaa.AI
