/- Part 4. -/
import Derived.Test.YtcadechpjkoepaaGreatXcC
import Derived.Deep.Slices
set_option linter.unusedVariables false
set_option linter.unusedSimpArgs false
set_option maxRecDepth 100000
namespace Go.Proofs.YtcadechpjkoepaaGreat.AI
open Go Go.RowKit
abbrev OblE := Option (Value × List Eff) × (Value × List Eff)
def MetE (l : List OblE) : Prop := ∀ o ∈ l, o.1 = some o.2
theorem MetE.nil : MetE [] := fun o ho => by cases ho
theorem MetE.cons {a : Option (Value × List Eff)} {v : Value × List Eff} {l : List OblE} (h : a = some v) (hl : MetE l) : MetE ((a, v) :: l) := fun o ho => by
  cases ho with
  | head => exact h
  | tail _ ho => exact hl o ho
theorem MetE.left {a b : List OblE} (h : MetE (a ++ b)) : MetE a := fun o ho => h o (List.mem_append_left _ ho)
theorem MetE.right {a b : List OblE} (h : MetE (a ++ b)) : MetE b := fun o ho => h o (List.mem_append_right _ ho)
abbrev ClE := List (Nat × Value × List Eff)
def callOf (o : Oper) : Option Call := match o.op with
  | .call c => match c.callee with
    | .value _ => some c
    | _ => none
  | _ => none
theorem callOf_some {o : Oper} {c : Call} (h : callOf o = some c) : o.op = .call c ∧ ∃ x, c.callee = .value x := by
  unfold callOf at h
  split at h
  · rename_i c' ho
    split at h
    · rename_i x hx; cases h; exact ⟨ho, x, hx⟩
    · cases h
  · cases h
section
variable {P : Program} {call : CallF} {cl : List (Tmp × Value)} {ch : ClH} {ce : ClE}
end
section
variable {P : Program} {N : Nat} {W : Base}
end
end Go.Proofs.YtcadechpjkoepaaGreat.AI
namespace Go.Proofs.YtcadechpjkoepaaGreat.AI
open Go Go.RowKit
structure FRq (n : Nat) (W : Base) (x : Nat × Nat × Nat) (st : St) (a : Act) (w : World) (m : BM) : Prop where
  fr : FR n W st a w m
  pin : st.hp.get 0 = some .dead ∨ m 0 = some x
def FRp (P : Program) (N : Nat) (W : Base) (x : Nat × Nat × Nat) (c : Code) (st : St) (Q : Exit → St → Prop) : Prop :=
  ∀ a w m, FRq N W x st a w m → c.wp P (fun e a' w' => ∃ st' m', FRq N W x st' a' w' m' ∧ Q e st') a w
section
variable {P : Program} {N : Nat} {W : Base} {x : Nat × Nat × Nat}
theorem FRp.mono {c : Code} {st : St} {Q Q' : Exit → St → Prop} (h : FRp P N W x c st Q) (hq : ∀ e st', Q e st' → Q' e st') : FRp P N W x c st Q' := fun a w m f =>
  wp_mono (h a w m f) fun e a' w' hh => by
    obtain ⟨st', m', f', q⟩ := hh
    exact ⟨st', m', f', hq e st' q⟩
theorem FRp.seq {c d : Code} {st : St} {Q1 Q : Exit → St → Prop} (h1 : FRp P N W x c st Q1) (h2 : ∀ st', Q1 .normal st' → FRp P N W x d st' Q) (h3 : ∀ e st', e ≠ .normal → Q1 e st' → Q e st') : FRp P N W x (.seq c d) st Q := fun a w m f => by
  refine wp_seq (wp_mono (h1 a w m f) fun e a' w' hh => ?_)
  obtain ⟨st', m', f', q⟩ := hh
  cases e with
  | normal => exact h2 st' q a' w' m' f'
  | _ => exact ⟨st', m', f', h3 _ st' (by simp) q⟩
theorem FRp.block {id : Nat} {c : Code} {st : St} {Q : Exit → St → Prop} (h : FRp P N W x c st fun e st' => match e with | .exit i => if i = id then Q .normal st' else Q (.exit i) st' | e => Q e st') : FRp P N W x (.block id c) st Q := fun a w m f => by
  refine wp_block (wp_mono (h a w m f) fun e a' w' hh => ?_)
  obtain ⟨st', m', f', q⟩ := hh
  cases e with
  | exit i =>
    show (if i = id then _ else _)
    by_cases hi : i = id
    · simp only [hi, if_true] at q ⊢
      exact ⟨st', m', f', q⟩
    · simp only [hi, if_false] at q ⊢
      exact ⟨st', m', f', q⟩
  | _ => exact ⟨st', m', f', q⟩
theorem FRp.skip {st : St} {Q : Exit → St → Prop} (h : Q .normal st) : FRp P N W x .skip st Q := fun a w m f => wp_skip ⟨st, m, f, h⟩
theorem FRp.loop {c : Code} {Q : Exit → St → Prop} (I : Nat → St → Prop) (hI : ∀ k st, I k st → FRp P N W x c st fun e st' => (e = .normal ∧ ∃ k', k' < k ∧ I k' st') ∨ (e ≠ .normal ∧ Q e st')) {k : Nat} {st : St} (h : I k st) : FRp P N W x (.loop c) st Q := fun a w m f => by
  have key : ∀ k st a w m, I k st → FRq N W x st a w m → Code.rounds P c (fun e a' w' => ∃ st' m', FRq N W x st' a' w' m' ∧ Q e st') (k + 1) a w := by
    intro k
    induction k using Nat.strongRecOn with
    | _ k ih =>
      intro st a w m hi f
      rw [rounds_succ]
      refine wp_mono (hI k st hi a w m f) fun e a' w' hh => ?_
      obtain ⟨st', m', f', q⟩ := hh
      rcases q with ⟨rfl, k', hk, hi'⟩ | ⟨hne, q⟩
      · exact rounds_le (show k' + 1 ≤ k by omega) (ih k' hk st' a' w' m' hi' f')
      · cases e with
        | normal => exact absurd rfl hne
        | _ => exact ⟨st', m', f', q⟩
  exact wp_loop_rounds (k + 1) (key k st a w m h f)
end
end Go.Proofs.YtcadechpjkoepaaGreat.AI
namespace Go.Proofs.YtcadechpjkoepaaGreat.AI
open Go Go.Proofs Go.RowKit
inductive Cm where
  | v (w : Value) : Cm
  | h (w : Value) (O : List Blk) : Cm
  | e (w : Value) (es : List Eff) : Cm
structure Acc where
  cs : List (Nat × Cm)
  k : Nat
  q : List Obl
  r : List OblH
  x : List OblE
abbrev CallN := FuncId → List Value → Hp → Acc → Option (Value × Hp × Acc)
section
variable {P : Program} {call : CallF} {cn : CallN}
end
section
variable {P : Program} {N : Nat} {W : Base}
end
end Go.Proofs.YtcadechpjkoepaaGreat.AI
namespace Go.Proofs.YtcadechpjkoepaaGreat.AI
open Go Go.Proofs Go.RowKit
inductive Plan where
  | stop (p : Nat) (K Ts : List Nat) : Plan
  | b (k : Nat) (x y : Plan) : Plan
  | w (k : Nat) (c : Bool) (x y : Plan) : Plan
  | v (k : Nat) (w : Value) (x : Plan) : Plan
  | h (k : Nat) (w : Value) (O : List Blk) (x : Plan) : Plan
  | e (k : Nat) (w : Value) (es : List Eff) (x : Plan) : Plan
  | l (k n : Nat) (K Ts : List Nat) (α : Type) (post : α → (Nat → Value) → Exit × St) (ok : α → Prop) (x : Plan) : Plan
  | m (k n : Nat) (K Ts : List Nat) (α : Type) (post : α → (Nat → Value) → Exit × St) (ok : α → Prop) (x : Plan) (β : Type) (post2 : β → (Nat → Value) → Exit × St) (ok2 : β → Prop) (y : Plan) : Plan
abbrev KV := Value → Hp → List (FuncId × List Value) → Plan → Nat → Prop
abbrev CallT := FuncId → List Value → Hp → Plan → Nat → (Value → Hp → Plan → Nat → Prop) → Prop
def CtOk (call : CallF) (cn : CallT) : Prop := ∀ f args h p k K, cn f args h p k K → ∃ v h' p' k', call f args h = some (v, h') ∧ K v h' p' k'
def HT (r : Hp → Option (Value × Hp)) (hp : Hp) (w : Value) (O : List Blk) : Prop := r hp = some (w, heapOf O hp)
def HE (r : Hp → Option (Value × Hp)) (hp : Hp) (w : Value) (es : List Eff) : Prop := r hp = some (w, hp.eff es)
def metK : List Obl → Prop → Prop
  | [], X => X
  | (a, v) :: l, X => a = some v ∧ metK l X
theorem metK_ok : ∀ {l : List Obl} {X : Prop}, metK l X → Met l ∧ X
  | [], X, h => ⟨Met.nil, h⟩
  | (a, v) :: l, X, h => ⟨Met.cons h.1 (metK_ok h.2).1, (metK_ok h.2).2⟩
def plainT (P : Program) (call : CallF) (cn : CallT) (o : Oper) (st : St) (p : Plan) (k : Nat) (K : KV) : Prop :=
  match cls P o with
  | .big => match opB P st.eval st.hp.sz st.hp.get o with
    | some (v, es) => K v (st.hp.eff es) st.df p k
    | none => match o.op with
      | .call c => match target st.eval c with
        | some (f, args) => cn f args st.hp p k fun v h p' k' => K v h st.df p' k'
        | none => False
      | .defer c => match target st.eval c with
        | some (f, args) => K undef st.hp ((f, args) :: st.df) p k
        | none => False
      | _ => False
  | _ => match aStep P call o st with
    | some (v, h, d) => K v h d p k
    | none => False
def valT (P : Program) (call : CallF) (o : Oper) (st : St) (w : Value) (X : Hp → List (FuncId × List Value) → Prop) : Prop :=
  match cls P o with
  | .big => match aStep P call o st with
    | some (u, h, d) => u = w ∧ X h d
    | none => False
  | _ => plainV P st.eval st.hp.get st.hp.sz o = some w ∧ X st.hp st.df
def layT (P : Program) (call : CallF) (o : Oper) (st : St) (w : Value) (O : List Blk) (X : Hp → List (FuncId × List Value) → Prop) : Prop :=
  match cls P o with
  | .pure => match O with
    | [b] => opP P st.eval st.hp.sz o = some (w, some b) ∧ X (st.hp.push b) st.df
    | _ => False
  | .read => False
  | .big => match opB P st.eval st.hp.sz st.hp.get o, o.op with
    | none, .call c => match target st.eval c with
      | some (f, args) => HT (call f args) st.hp w O ∧ X (heapOf O st.hp) st.df
      | none => False
    | _, _ => False
def effT (P : Program) (call : CallF) (o : Oper) (st : St) (w : Value) (es : List Eff) (X : Hp → List (FuncId × List Value) → Prop) : Prop :=
  match cls P o, callOf o with
  | .big, none => opB P st.eval st.hp.sz st.hp.get o = some (w, es) ∧ X (st.hp.eff es) st.df
  | .big, some c => match target st.eval c with
    | some (f, args) => HE (call f args) st.hp w es ∧ X (st.hp.eff es) st.df
    | none => False
  | _, _ => False
def forkT (P : Program) (call : CallF) (o : Oper) (st : St) (X : Bool → Hp → List (FuncId × List Value) → Prop) : Prop :=
  match aStep P call o st with
  | some (.bool c, h, d) => (c = true → X true h d) ∧ (c = false → X false h d)
  | _ => False
def stepT (P : Program) (call : CallF) (cn : CallT) (o : Oper) (st : St) (p : Plan) (k : Nat) (K : KV) : Prop :=
  match p with
  | .stop a b c => plainT P call cn o st (.stop a b c) (k + 1) K
  | .b j x y => match Nat.beq j k with
    | true => forkT P call o st fun c h d => match c with
      | true => K (.bool true) h d x (k + 1)
      | false => K (.bool false) h d y (k + 1)
    | false => plainT P call cn o st (.b j x y) (k + 1) K
  | .w j c x y => match Nat.beq j k with
    | true => plainV P st.eval st.hp.get st.hp.sz o = some (.bool c) ∧ (c = true → K (.bool true) st.hp st.df x (k + 1)) ∧ (c = false → K (.bool false) st.hp st.df y (k + 1))
    | false => plainT P call cn o st (.w j c x y) (k + 1) K
  | .v j w x => match Nat.beq j k with
    | true => valT P call o st w fun h d => K w h d x (k + 1)
    | false => plainT P call cn o st (.v j w x) (k + 1) K
  | .h j w O x => match Nat.beq j k with
    | true => layT P call o st w O fun h d => K w h d x (k + 1)
    | false => plainT P call cn o st (.h j w O x) (k + 1) K
  | .e j w es x => match Nat.beq j k with
    | true => effT P call o st w es fun h d => K w h d x (k + 1)
    | false => plainT P call cn o st (.e j w es x) (k + 1) K
  | p => plainT P call cn o st p (k + 1) K
def runOpsT (P : Program) (call : CallF) (cn : CallT) (ops : Array Oper) : List Oper → St → Plan → Nat → (St → Plan → Nat → Prop) → Prop
  | [], st, p, k, K => K st p k
  | o :: os, st, p, k, K => match aWanted ops st o with
    | false => runOpsT P call cn ops os (st.tput o.dst undef) p k K
    | true => stepT P call cn o st p k fun v h d p' k' => runOpsT P call cn ops os ({ st with hp := h, df := d }.tput o.dst v) p' k' K
def runLogT (P : Program) (call : CallF) (cn : CallT) (ops : Array Oper) : List Oper → Nat → St → Plan → Nat → (St → List Log → Plan → Nat → Prop) → Prop
  | [], _, st, p, k, K => K st [] p k
  | o :: os, i, st, p, k, K => match aWanted ops st o with
    | false => runLogT P call cn ops os (i + 1) (st.tput o.dst undef) p k K
    | true => stepT P call cn o st p k fun v h d p' k' => runLogT P call cn ops os (i + 1) ({ st with hp := h, df := d }.tput o.dst v) p' k' fun st' l p2 k2 =>
        match cls P o with
        | .pure => K st' l p2 k2
        | .read => K st' (.read i (fun get => opR P st.eval get o) v :: l) p2 k2
        | .big => K st' (.big i st.hp h :: l) p2 k2
def execT (P : Program) (call : CallF) (cn : CallT) : Nat → Code → St → Plan → Nat → (Exit → St → Plan → Nat → Prop) → Prop
  | 0, _, _, _, _, _ => False
  | n + 1, c, st, p, k, K => match c with
    | .skip | .label _ => K .normal st p k
    | .region _ ops draw => match draw with
      | false => runOpsT P call cn ops ops.toList st p k fun st' p' k' => K .normal st' p' k'
      | true => match floats P ops with
        | [] => runOpsT P call cn ops ops.toList st p k fun st' p' k' => K .normal st' p' k'
        | f :: fs => runLogT P call cn ops ops.toList 0 st p k fun st' l p' k' => match pairsQ l (f :: fs) with
          | some q => metK q (K .normal st' p' k')
          | none => False
    | .seq x y => execT P call cn n x st p k fun e st' p' k' => match e with
      | .normal => execT P call cn n y st' p' k' K
      | e => K e st' p' k'
    | .cond x t f => match st.eval x with
      | .bool true => execT P call cn n t st p k K
      | .bool false => execT P call cn n f st p k K
      | _ => False
    | .block id body => execT P call cn n body st p k fun e st' p' k' => match e with
      | .exit i => match Nat.beq i id with
        | true => K .normal st' p' k'
        | false => K (.exit i) st' p' k'
      | e => K e st' p' k'
    | .loop body => execT P call cn n body st p k fun e st' p' k' => match e with
      | .normal => execT P call cn n (.loop body) st' p' k' K
      | e => K e st' p' k'
    | .scope body => execT P call cn n body st p k K
    | .exit id => K (.exit id) st p k
    | .ret => K .ret st p k
    | _ => False
def endT (P : Program) (ext : Ext) (n : Nat) (fn : Func) (st : St) (K : Value → Hp → Prop) : Prop :=
  match runDf (aPlain P ext (aCall P ext n) n) st.df st.hp with
  | some h' => match retVal P fn { st with hp := h' } with
    | some v => K v h'
    | none => False
  | none => False
def callT (P : Program) (ext : Ext) : Nat → CallT
  | 0, _, _, _, _, _, _ => False
  | n + 1, f, args, h, p, k, K => match ext f with
    | some e => match e (aCall P ext n) args h with
      | some (v, h') => K v h' p k
      | none => False
    | none => match P.funcs[f]? with
      | none => False
      | some fn => match fn.body with
        | none => False
        | some c => match Nat.ble args.length fn.ntmps with
          | false => False
          | true => execT P (aCall P ext n) (callT P ext n) n c ⟨tmsOf args 0 .leaf, h, []⟩ p k fun e st p' k' => match e with
            | .normal => endT P ext n fn st fun v h' => K v h' p' k'
            | .ret => endT P ext n fn st fun v h' => K v h' p' k'
            | _ => False
section
variable {P : Program} {call : CallF} {cn : CallT}
theorem plainT_ok (hcn : CtOk call cn) {o : Oper} {st : St} {p : Plan} {k : Nat} {K : KV} (he : plainT P call cn o st p k K) : ∃ v h d p' k', aStep P call o st = some (v, h, d) ∧ K v h d p' k' := by
  unfold plainT at he
  split at he
  · rename_i hc
    split at he
    · rename_i hb
      exact ⟨_, _, _, _, _, by unfold aStep; simp only [hc, hb], he⟩
    · rename_i hb
      split at he
      · rename_i ho
        split at he
        · rename_i ht
          obtain ⟨v, h', p', k', q1, q2⟩ := hcn _ _ _ _ _ _ he
          exact ⟨_, _, _, _, _, by unfold aStep; simp only [hc, hb, ho, ht, q1], q2⟩
        · exact he.elim
      · rename_i ho
        split at he
        · rename_i ht
          exact ⟨_, _, _, _, _, by unfold aStep; simp only [hc, hb, ho, ht], he⟩
        · exact he.elim
      · exact he.elim
  · split at he
    · rename_i hs; exact ⟨_, _, _, _, _, hs, he⟩
    · exact he.elim
theorem valT_ok {o : Oper} {st : St} {w : Value} {X : Hp → List (FuncId × List Value) → Prop} (he : valT P call o st w X) : ∃ h d, aStep P call o st = some (w, h, d) ∧ X h d := by
  unfold valT at he
  split at he
  · split at he
    · rename_i hs; exact ⟨_, _, by rw [hs, he.1], he.2⟩
    · exact he.elim
  · exact ⟨_, _, plainV_step he.1, he.2⟩
theorem layT_ok {o : Oper} {st : St} {w : Value} {O : List Blk} {X : Hp → List (FuncId × List Value) → Prop} (he : layT P call o st w O X) : ∃ h d, aStep P call o st = some (w, h, d) ∧ X h d := by
  unfold layT at he
  split at he
  · rename_i hc
    split at he
    · obtain ⟨he, hX⟩ := he
      exact ⟨_, _, by unfold aStep; simp only [hc, he], hX⟩
    · exact he.elim
  · exact he.elim
  · rename_i hc
    split at he
    · rename_i hb ho
      split at he
      · rename_i ht
        obtain ⟨he, hX⟩ := he
        refine ⟨_, _, ?_, hX⟩
        unfold HT at he
        unfold aStep
        simp only [hc, hb, ho, ht, he]
      · exact he.elim
    · exact he.elim
theorem effT_ok {o : Oper} {st : St} {w : Value} {es : List Eff} {X : Hp → List (FuncId × List Value) → Prop} (he : effT P call o st w es X) : ∃ h d, aStep P call o st = some (w, h, d) ∧ X h d := by
  unfold effT at he
  split at he
  · rename_i hc _
    obtain ⟨he, hX⟩ := he
    exact ⟨_, _, by unfold aStep; simp only [hc, he], hX⟩
  · rename_i c hc hcall
    obtain ⟨ho, y, hy⟩ := callOf_some hcall
    split at he
    · rename_i ht
      obtain ⟨he, hX⟩ := he
      refine ⟨_, _, ?_, hX⟩
      unfold HE at he
      have hb : opB P st.eval st.hp.sz st.hp.get o = none := by
        unfold opB
        simp only [ho, hy]
      unfold aStep
      simp only [hc, hb, ho, ht, he]
    · exact he.elim
  · exact he.elim
theorem forkT_ok {o : Oper} {st : St} {X : Bool → Hp → List (FuncId × List Value) → Prop} (he : forkT P call o st X) : ∃ c h d, aStep P call o st = some (.bool c, h, d) ∧ X c h d := by
  unfold forkT at he
  split at he
  · rename_i c h d hs
    refine ⟨c, h, d, hs, ?_⟩
    cases c with
    | true => exact he.1 rfl
    | false => exact he.2 rfl
  · exact he.elim
theorem stepT_ok (hcn : CtOk call cn) {o : Oper} {st : St} {p : Plan} {k : Nat} {K : KV} (he : stepT P call cn o st p k K) : ∃ v h d p' k', aStep P call o st = some (v, h, d) ∧ K v h d p' k' := by
  unfold stepT at he
  split at he
  · exact plainT_ok hcn he
  · split at he
    · obtain ⟨c, h, d, q1, q2⟩ := forkT_ok he
      cases c with
      | true => exact ⟨_, _, _, _, _, q1, q2⟩
      | false => exact ⟨_, _, _, _, _, q1, q2⟩
    · exact plainT_ok hcn he
  · split at he
    · rename_i j c x y _ _
      obtain ⟨q1, q2, q3⟩ := he
      cases c with
      | true => exact ⟨_, _, _, _, _, plainV_step q1, q2 rfl⟩
      | false => exact ⟨_, _, _, _, _, plainV_step q1, q3 rfl⟩
    · exact plainT_ok hcn he
  · split at he
    · obtain ⟨h, d, q1, q2⟩ := valT_ok he; exact ⟨_, _, _, _, _, q1, q2⟩
    · exact plainT_ok hcn he
  · split at he
    · obtain ⟨h, d, q1, q2⟩ := layT_ok he; exact ⟨_, _, _, _, _, q1, q2⟩
    · exact plainT_ok hcn he
  · split at he
    · obtain ⟨h, d, q1, q2⟩ := effT_ok he; exact ⟨_, _, _, _, _, q1, q2⟩
    · exact plainT_ok hcn he
  · exact plainT_ok hcn he
theorem runOpsT_ok (hcn : CtOk call cn) {ops : Array Oper} : ∀ {os : List Oper} {st : St} {p : Plan} {k : Nat} {K : St → Plan → Nat → Prop}, runOpsT P call cn ops os st p k K → ∃ st' p' k', runOps P call ops os st = some st' ∧ K st' p' k'
  | [], st, p, k, K, he => ⟨_, _, _, rfl, he⟩
  | o :: os, st, p, k, K, he => by
    unfold runOpsT at he
    unfold runOps
    split at he
    · rename_i hw; simp only [hw]; exact runOpsT_ok hcn he
    · rename_i hw
      simp only [hw]
      obtain ⟨v, h, d, p', k', q1, q2⟩ := stepT_ok hcn he
      simp only [q1]
      exact runOpsT_ok hcn q2
theorem runLogT_ok (hcn : CtOk call cn) {ops : Array Oper} : ∀ {os : List Oper} {i : Nat} {st : St} {p : Plan} {k : Nat} {K : St → List Log → Plan → Nat → Prop}, runLogT P call cn ops os i st p k K → ∃ st' l p' k', runLog P call ops os i st = some (st', l) ∧ K st' l p' k'
  | [], i, st, p, k, K, he => ⟨_, _, _, _, rfl, he⟩
  | o :: os, i, st, p, k, K, he => by
    unfold runLogT at he
    unfold runLog
    split at he
    · rename_i hw; simp only [hw]; exact runLogT_ok hcn he
    · rename_i hw
      simp only [hw]
      obtain ⟨v, h, d, p', k', q1, q2⟩ := stepT_ok hcn he
      simp only [q1]
      obtain ⟨st', l, p2, k2, r1, r2⟩ := runLogT_ok hcn q2
      simp only [r1]
      split at r2
      · rename_i hc; simp only [hc]; exact ⟨_, _, _, _, rfl, r2⟩
      · rename_i hc; simp only [hc]; exact ⟨_, _, _, _, rfl, r2⟩
      · rename_i hc; simp only [hc]; exact ⟨_, _, _, _, rfl, r2⟩
theorem execT_ok (hcn : CtOk call cn) : ∀ {n : Nat} {c : Code} {st : St} {p : Plan} {k : Nat} {K : Exit → St → Plan → Nat → Prop}, execT P call cn n c st p k K → ∃ e st' p' k', exec P call n c st = some (e, st') ∧ K e st' p' k'
  | 0, c, st, p, k, K, he => he.elim
  | n + 1, c, st, p, k, K, he => by
    cases c with
    | skip => exact ⟨_, _, _, _, rfl, he⟩
    | label l => exact ⟨_, _, _, _, rfl, he⟩
    | exit i => exact ⟨_, _, _, _, rfl, he⟩
    | ret => exact ⟨_, _, _, _, rfl, he⟩
    | region id ops draw =>
      simp only [execT] at he
      simp only [exec]
      cases draw with
      | false =>
        simp only at he
        obtain ⟨st', p', k', q1, q2⟩ := runOpsT_ok hcn he
        exact ⟨_, _, _, _, by simp only [aRegion, q1], q2⟩
      | true =>
        simp only at he
        split at he
        · rename_i hf
          obtain ⟨st', p', k', q1, q2⟩ := runOpsT_ok hcn he
          exact ⟨_, _, _, _, by simp only [aRegion, hf, q1], q2⟩
        · rename_i f fs hf
          obtain ⟨st', l, p', k', q1, q2⟩ := runLogT_ok hcn he
          split at q2
          · rename_i q hq
            obtain ⟨m, q3⟩ := metK_ok q2
            exact ⟨_, _, _, _, by simp only [aRegion, hf, q1, pairsQ_met hq m], q3⟩
          · exact q2.elim
    | seq x y =>
      simp only [execT] at he
      simp only [exec]
      obtain ⟨e, st', p', k', q1, q2⟩ := execT_ok hcn he
      simp only [q1]
      cases e with
      | normal => exact execT_ok hcn q2
      | _ => exact ⟨_, _, _, _, rfl, q2⟩
    | cond x t f =>
      simp only [execT] at he
      simp only [exec]
      split at he
      · rename_i hx; simp only [hx]; exact execT_ok hcn he
      · rename_i hx; simp only [hx]; exact execT_ok hcn he
      · exact he.elim
    | block id b =>
      simp only [execT] at he
      simp only [exec]
      obtain ⟨e, st', p', k', q1, q2⟩ := execT_ok hcn he
      simp only [q1]
      cases e with
      | exit i =>
        simp only at q2 ⊢
        split at q2
        · rename_i hi; simp only [hi]; exact ⟨_, _, _, _, rfl, q2⟩
        · rename_i hi; simp only [hi]; exact ⟨_, _, _, _, rfl, q2⟩
      | _ => exact ⟨_, _, _, _, rfl, q2⟩
    | loop b =>
      simp only [execT] at he
      simp only [exec]
      obtain ⟨e, st', p', k', q1, q2⟩ := execT_ok hcn he
      simp only [q1]
      cases e with
      | normal => exact execT_ok hcn q2
      | _ => exact ⟨_, _, _, _, rfl, q2⟩
    | scope b =>
      simp only [execT] at he
      simp only [exec]
      exact execT_ok hcn he
    | _ => exact he.elim
theorem endT_ok {ext : Ext} {n : Nat} {fn : Func} {st : St} {K : Value → Hp → Prop} (he : endT P ext n fn st K) : ∃ v h', runDf (aPlain P ext (aCall P ext n) n) st.df st.hp = some h' ∧ retVal P fn { st with hp := h' } = some v ∧ K v h' := by
  unfold endT at he
  split at he
  · rename_i h1
    split at he
    · rename_i h2; exact ⟨_, _, h1, h2, he⟩
    · exact he.elim
  · exact he.elim
theorem callT_ok (ext : Ext) : ∀ n, CtOk (aCall P ext n) (callT P ext n)
  | 0 => fun f args h p k K he => he.elim
  | n + 1 => fun f args h p k K he => by
    simp only [callT] at he
    simp only [aCall]
    split at he
    · rename_i e hx
      split at he
      · rename_i hr; exact ⟨_, _, _, _, by simp only [hx, hr], he⟩
      · exact he.elim
    · rename_i hx
      split at he
      · exact he.elim
      · rename_i fn hf
        split at he
        · exact he.elim
        · rename_i c hb
          split at he
          · exact he.elim
          · rename_i hle
            obtain ⟨e, st, p', k', q1, q2⟩ := execT_ok (callT_ok ext n) he
            cases e with
            | normal =>
              obtain ⟨v, h', e2, e3, q3⟩ := endT_ok q2
              exact ⟨_, _, _, _, by simp only [hx, hf, aBody, hb, hle, q1, e2, e3]; rfl, q3⟩
            | ret =>
              obtain ⟨v, h', e2, e3, q3⟩ := endT_ok q2
              exact ⟨_, _, _, _, by simp only [hx, hf, aBody, hb, hle, q1, e2, e3]; rfl, q3⟩
            | _ => exact q2.elim
end
def CT (P : Program) (ext : Ext) (n : Nat) (f : FuncId) (args : List Value) (p : Plan) (Q : Value → Prop) : Prop := callT P ext n f args hp0 p 0 fun v _ _ _ => Q v
theorem CT_run {P : Program} {ext : Ext} {n : Nat} {f : FuncId} {args : List Value} {p : Plan} {v : Value} {X : Prop} (e : X = CT P ext n f args p (fun u => u = v)) (h : X) : ∃ hp, aCall P ext n f args hp0 = some (v, hp) := by
  rw [e] at h
  obtain ⟨u, hp, _, _, q1, rfl⟩ := callT_ok ext n _ _ _ _ _ _ h
  exact ⟨hp, q1⟩
section
variable {P : Program} {N z : Nat} {W : Base}
end
end Go.Proofs.YtcadechpjkoepaaGreat.AI
