/- Runs with claims by the number of the operation, through the calls: what is owed is gathered. -/
import Derived.Test.YtgeoommlmddgpaaAi41
set_option linter.unusedVariables false
set_option linter.unusedSimpArgs false
set_option maxRecDepth 100000
namespace Go.Proofs.Ytgeoommlmddgpaa.AI
open Go Go.Proofs Go.RowKit

/-- A claim: an answer; an answer and blocks laid; an answer and effects. -/
inductive Cm where
  | v (w : Value) : Cm
  | h (w : Value) (O : List Blk) : Cm
  | e (w : Value) (es : List Eff) : Cm
/-- The claims ahead, the number of the next operation, what is owed. -/
structure Acc where
  cs : List (Nat × Cm)
  k : Nat
  q : List Obl
  r : List OblH
  x : List OblE
def Good (a : Acc) : Prop := Met a.q ∧ MetH a.r ∧ MetE a.x
abbrev CallN := FuncId → List Value → Hp → Acc → Option (Value × Hp × Acc)
def CnOk (call : CallF) (cn : CallN) : Prop := ∀ f args h a v h' a', cn f args h a = some (v, h', a') → Good a' → Good a ∧ call f args h = some (v, h')

/-- A value, and the heap with the block that is laid. -/
def pushV (hp : Hp) (r : Value × Option Blk) : Value × Hp := (r.1, match r.2 with
  | some b => hp.push b
  | none => hp)
def claimN (P : Program) (call : CallF) (o : Oper) (st : St) (c : Cm) (a : Acc) : Option (Value × Hp × List (FuncId × List Value) × Acc) :=
  match c with
  | .v w => match cls P o with
    | .big => match aStep P call o st with
      | some (u, h, d) => some (w, h, d, ⟨a.cs, a.k, (some u, w) :: a.q, a.r, a.x⟩)
      | none => none
    | _ => some (w, st.hp, st.df, ⟨a.cs, a.k, (plainV P st.eval st.hp.get st.hp.sz o, w) :: a.q, a.r, a.x⟩)
  | .h w O => match cls P o with
    | .pure => some (w, heapOf O st.hp, st.df, ⟨a.cs, a.k, a.q, ((opP P st.eval st.hp.sz o).map (pushV st.hp), (w, heapOf O st.hp)) :: a.r, a.x⟩)
    | .read => none
    | .big => match opB P st.eval st.hp.sz st.hp.get o, o.op with
      | none, .call c => match target st.eval c with
        | some (f, args) => some (w, heapOf O st.hp, st.df, ⟨a.cs, a.k, a.q, (call f args st.hp, (w, heapOf O st.hp)) :: a.r, a.x⟩)
        | none => none
      | _, _ => none
  | .e w es => match cls P o, callOf o with
    | .big, none => some (w, st.hp.eff es, st.df, ⟨a.cs, a.k, a.q, a.r, (opB P st.eval st.hp.sz st.hp.get o, (w, es)) :: a.x⟩)
    | .big, some c => match target st.eval c with
      | some (f, args) => some (w, st.hp.eff es, st.df, ⟨a.cs, a.k, a.q, (call f args st.hp, (w, st.hp.eff es)) :: a.r, a.x⟩)
      | none => none
    | _, _ => none
def plainN (P : Program) (call : CallF) (cn : CallN) (o : Oper) (st : St) (a : Acc) : Option (Value × Hp × List (FuncId × List Value) × Acc) :=
  match cls P o with
  | .big => match opB P st.eval st.hp.sz st.hp.get o with
    | some (v, es) => some (v, st.hp.eff es, st.df, a)
    | none => match o.op with
      | .call c => match target st.eval c with
        | some (f, args) => match cn f args st.hp a with
          | some (v, h, a') => some (v, h, st.df, a')
          | none => none
        | none => none
      | .defer c => match target st.eval c with
        | some (f, args) => some (undef, st.hp, (f, args) :: st.df, a)
        | none => none
      | _ => none
  | _ => match aStep P call o st with
    | some (v, h, d) => some (v, h, d, a)
    | none => none
def stepN (P : Program) (call : CallF) (cn : CallN) (o : Oper) (st : St) (a : Acc) : Option (Value × Hp × List (FuncId × List Value) × Acc) :=
  match a.cs with
  | [] => plainN P call cn o st ⟨[], a.k + 1, a.q, a.r, a.x⟩
  | (j, c) :: cs => match Nat.beq j a.k with
    | true => claimN P call o st c ⟨cs, a.k + 1, a.q, a.r, a.x⟩
    | false => plainN P call cn o st ⟨(j, c) :: cs, a.k + 1, a.q, a.r, a.x⟩
def runOpsN (P : Program) (call : CallF) (cn : CallN) (ops : Array Oper) : List Oper → St → Acc → Option (St × Acc)
  | [], st, a => some (st, a)
  | o :: os, st, a => match aWanted ops st o with
    | false => runOpsN P call cn ops os (st.tput o.dst undef) a
    | true => match stepN P call cn o st a with
      | some (v, h, d, a') => runOpsN P call cn ops os ({ st with hp := h, df := d }.tput o.dst v) a'
      | none => none
def runLogN (P : Program) (call : CallF) (cn : CallN) (ops : Array Oper) : List Oper → Nat → St → Acc → Option (St × List Log × Acc)
  | [], _, st, a => some (st, [], a)
  | o :: os, i, st, a => match aWanted ops st o with
    | false => runLogN P call cn ops os (i + 1) (st.tput o.dst undef) a
    | true => match stepN P call cn o st a with
      | some (v, h, d, a1) => match runLogN P call cn ops os (i + 1) ({ st with hp := h, df := d }.tput o.dst v) a1 with
        | some (st', l, a2) => match cls P o with
          | .pure => some (st', l, a2)
          | .read => some (st', .read i (fun get => opR P st.eval get o) v :: l, a2)
          | .big => some (st', .big i st.hp h :: l, a2)
        | none => none
      | none => none
def execN (P : Program) (call : CallF) (cn : CallN) : Nat → Code → St → Acc → Option (Exit × St × Acc)
  | 0, _, _, _ => none
  | n + 1, c, st, a => match c with
    | .skip | .label _ => some (.normal, st, a)
    | .region _ ops draw => match draw with
      | false => match runOpsN P call cn ops ops.toList st a with
        | some (st', a') => some (.normal, st', a')
        | none => none
      | true => match floats P ops with
        | [] => match runOpsN P call cn ops ops.toList st a with
          | some (st', a') => some (.normal, st', a')
          | none => none
        | p :: ps => match runLogN P call cn ops ops.toList 0 st a with
          | some (st', l, a') => match pairsQ l (p :: ps) with
            | some q2 => some (.normal, st', ⟨a'.cs, a'.k, q2 ++ a'.q, a'.r, a'.x⟩)
            | none => none
          | none => none
    | .seq x y => match execN P call cn n x st a with
      | some (.normal, st', a') => execN P call cn n y st' a'
      | r => r
    | .cond x t f => match st.eval x with
      | .bool true => execN P call cn n t st a
      | .bool false => execN P call cn n f st a
      | _ => none
    | .block id body => match execN P call cn n body st a with
      | some (.exit i, st', a') => match Nat.beq i id with
        | true => some (.normal, st', a')
        | false => some (.exit i, st', a')
      | r => r
    | .loop body => match execN P call cn n body st a with
      | some (.normal, st', a') => execN P call cn n (.loop body) st' a'
      | r => r
    | .scope body => execN P call cn n body st a
    | .exit id => some (.exit id, st, a)
    | .ret => some (.ret, st, a)
    | _ => none
def endN (P : Program) (ext : Ext) (n : Nat) (fn : Func) (st : St) (a : Acc) : Option (Value × Hp × Acc) :=
  match runDf (aPlain P ext (aCall P ext n) n) st.df st.hp with
  | some h' => match retVal P fn { st with hp := h' } with
    | some v => some (v, h', a)
    | none => none
  | none => none
def callN (P : Program) (ext : Ext) : Nat → CallN
  | 0, _, _, _, _ => none
  | n + 1, f, args, h, a => match ext f with
    | some e => match e (aCall P ext n) args h with
      | some (v, h') => some (v, h', a)
      | none => none
    | none => match P.funcs[f]? with
      | none => none
      | some fn => match fn.body with
        | none => none
        | some c => match Nat.ble args.length fn.ntmps with
          | false => none
          | true => match execN P (aCall P ext n) (callN P ext n) n c ⟨tmsOf args 0 .leaf, h, []⟩ a with
            | some (.normal, st, a') => endN P ext n fn st a'
            | some (.ret, st, a') => endN P ext n fn st a'
            | _ => none

section
variable {P : Program} {call : CallF} {cn : CallN}
theorem claimN_ok {o : Oper} {st : St} {c : Cm} {a a' : Acc} {v : Value} {h : Hp} {d : List (FuncId × List Value)} (he : claimN P call o st c a = some (v, h, d, a')) (g : Good a') : Good a ∧ aStep P call o st = some (v, h, d) := by
  unfold claimN at he
  obtain ⟨gq, gr, gx⟩ := g
  cases c with
  | v w =>
    simp only at he
    split at he
    · split at he
      · rename_i hs
        cases he
        have := gq _ (.head _)
        simp only [Option.some.injEq] at this
        exact ⟨⟨fun o ho => gq o (.tail _ ho), gr, gx⟩, by rw [hs, this]⟩
      · cases he
    · cases he
      exact ⟨⟨fun o ho => gq o (.tail _ ho), gr, gx⟩, plainV_step (gq _ (.head _))⟩
  | h w O =>
    simp only at he
    split at he
    · rename_i hc
      cases he
      have := gr _ (.head _)
      obtain ⟨⟨v1, b1⟩, h1, h2⟩ := Option.map_eq_some_iff.1 this
      refine ⟨⟨gq, fun o ho => gr o (.tail _ ho), gx⟩, ?_⟩
      unfold aStep
      simp only [hc, h1]
      unfold pushV at h2
      simp only [Prod.mk.injEq] at h2
      obtain ⟨rfl, h3⟩ := h2
      cases b1 with
      | none => simp only at h3 ⊢; rw [← h3]
      | some b => simp only at h3 ⊢; rw [← h3]
    · cases he
    · rename_i hc
      split at he
      · rename_i hb ho
        split at he
        · rename_i ht
          cases he
          have := gr _ (.head _)
          simp only at this
          refine ⟨⟨gq, fun o ho => gr o (.tail _ ho), gx⟩, ?_⟩
          unfold aStep
          simp only [hc, hb, ho, ht, this]
        · cases he
      · cases he
  | e w es =>
    simp only at he
    split at he
    · rename_i hc _
      cases he
      have := gx _ (.head _)
      simp only at this
      refine ⟨⟨gq, gr, fun o ho => gx o (.tail _ ho)⟩, ?_⟩
      unfold aStep
      simp only [hc, this]
    · rename_i c hc hcall
      obtain ⟨ho, y, hy⟩ := callOf_some hcall
      split at he
      · rename_i ht
        cases he
        have := gr _ (.head _)
        simp only at this
        have hb : opB P st.eval st.hp.sz st.hp.get o = none := by
          unfold opB
          simp only [ho, hy]
        refine ⟨⟨gq, fun o ho => gr o (.tail _ ho), gx⟩, ?_⟩
        unfold aStep
        simp only [hc, hb, ho, ht, this]
      · cases he
    · cases he
theorem plainN_ok (hcn : CnOk call cn) {o : Oper} {st : St} {a a' : Acc} {v : Value} {h : Hp} {d : List (FuncId × List Value)} (he : plainN P call cn o st a = some (v, h, d, a')) (g : Good a') : Good a ∧ aStep P call o st = some (v, h, d) := by
  unfold plainN at he
  split at he
  · rename_i hc
    split at he
    · rename_i hb
      cases he
      exact ⟨g, by unfold aStep; simp only [hc, hb]⟩
    · rename_i hb
      split at he
      · rename_i ho
        split at he
        · rename_i ht
          split at he
          · rename_i hcall
            cases he
            obtain ⟨g1, g2⟩ := hcn _ _ _ _ _ _ _ hcall g
            exact ⟨g1, by unfold aStep; simp only [hc, hb, ho, ht, g2]⟩
          · cases he
        · cases he
      · rename_i ho
        split at he
        · rename_i ht
          cases he
          exact ⟨g, by unfold aStep; simp only [hc, hb, ho, ht]⟩
        · cases he
      · cases he
  · split at he
    · rename_i hs; cases he; exact ⟨g, hs⟩
    · cases he
theorem stepN_ok (hcn : CnOk call cn) {o : Oper} {st : St} {a a' : Acc} {v : Value} {h : Hp} {d : List (FuncId × List Value)} (he : stepN P call cn o st a = some (v, h, d, a')) (g : Good a') : Good a ∧ aStep P call o st = some (v, h, d) := by
  unfold stepN at he
  split at he
  · obtain ⟨g1, h1⟩ := plainN_ok (a := ⟨[], a.k + 1, a.q, a.r, a.x⟩) hcn he g
    exact ⟨g1, h1⟩
  · rename_i j c cs _
    split at he
    · obtain ⟨g1, h1⟩ := claimN_ok (a := ⟨cs, a.k + 1, a.q, a.r, a.x⟩) he g
      exact ⟨g1, h1⟩
    · obtain ⟨g1, h1⟩ := plainN_ok (a := ⟨(j, c) :: cs, a.k + 1, a.q, a.r, a.x⟩) hcn he g
      exact ⟨g1, h1⟩
theorem runOpsN_ok (hcn : CnOk call cn) {ops : Array Oper} : ∀ {os : List Oper} {st st' : St} {a a' : Acc}, runOpsN P call cn ops os st a = some (st', a') → Good a' → Good a ∧ runOps P call ops os st = some st'
  | [], st, st', a, a', he, g => by cases he; exact ⟨g, rfl⟩
  | o :: os, st, st', a, a', he, g => by
    unfold runOpsN at he
    unfold runOps
    split at he
    · rename_i hw; simp only [hw]; exact runOpsN_ok hcn he g
    · rename_i hw
      simp only [hw]
      split at he
      · rename_i hs
        obtain ⟨g1, h1⟩ := runOpsN_ok hcn he g
        obtain ⟨g2, h2⟩ := stepN_ok hcn hs g1
        exact ⟨g2, by simp only [h2]; exact h1⟩
      · cases he
theorem runLogN_ok (hcn : CnOk call cn) {ops : Array Oper} : ∀ {os : List Oper} {i : Nat} {st st' : St} {l : List Log} {a a' : Acc}, runLogN P call cn ops os i st a = some (st', l, a') → Good a' → Good a ∧ runLog P call ops os i st = some (st', l)
  | [], i, st, st', l, a, a', he, g => by cases he; exact ⟨g, rfl⟩
  | o :: os, i, st, st', l, a, a', he, g => by
    unfold runLogN at he
    unfold runLog
    split at he
    · rename_i hw; simp only [hw]; exact runLogN_ok hcn he g
    · rename_i hw
      simp only [hw]
      split at he
      · rename_i hs
        split at he
        · rename_i hr
          split at he
          · rename_i hc
            cases he
            obtain ⟨g1, h1⟩ := runLogN_ok hcn hr g
            obtain ⟨g2, h2⟩ := stepN_ok hcn hs g1
            exact ⟨g2, by simp only [h2, h1, hc]⟩
          · rename_i hc
            cases he
            obtain ⟨g1, h1⟩ := runLogN_ok hcn hr g
            obtain ⟨g2, h2⟩ := stepN_ok hcn hs g1
            exact ⟨g2, by simp only [h2, h1, hc]⟩
          · rename_i hc
            cases he
            obtain ⟨g1, h1⟩ := runLogN_ok hcn hr g
            obtain ⟨g2, h2⟩ := stepN_ok hcn hs g1
            exact ⟨g2, by simp only [h2, h1, hc]⟩
        · cases he
      · cases he
theorem execN_ok (hcn : CnOk call cn) : ∀ {n : Nat} {c : Code} {st st' : St} {e : Exit} {a a' : Acc}, execN P call cn n c st a = some (e, st', a') → Good a' → Good a ∧ exec P call n c st = some (e, st')
  | 0, c, st, st', e, a, a', he, g => by cases he
  | n + 1, c, st, st', e, a, a', he, g => by
    cases c with
    | skip => cases he; exact ⟨g, rfl⟩
    | label l => cases he; exact ⟨g, rfl⟩
    | exit i => cases he; exact ⟨g, rfl⟩
    | ret => cases he; exact ⟨g, rfl⟩
    | region id ops draw =>
      simp only [execN] at he
      simp only [exec]
      cases draw with
      | false =>
        simp only at he
        split at he
        · rename_i hr
          cases he
          obtain ⟨g1, h1⟩ := runOpsN_ok hcn hr g
          exact ⟨g1, by simp only [aRegion, h1]⟩
        · cases he
      | true =>
        simp only at he
        split at he
        · rename_i hf
          split at he
          · rename_i hr
            cases he
            obtain ⟨g1, h1⟩ := runOpsN_ok hcn hr g
            exact ⟨g1, by simp only [aRegion, hf, h1]⟩
          · cases he
        · rename_i p ps hf
          split at he
          · rename_i hr
            split at he
            · rename_i hp
              cases he
              obtain ⟨gq, gr, gx⟩ := g
              obtain ⟨g1, h1⟩ := runLogN_ok hcn hr ⟨gq.right, gr, gx⟩
              exact ⟨g1, by simp only [aRegion, hf, h1, pairsQ_met hp gq.left]⟩
            · cases he
          · cases he
    | seq x y =>
      simp only [execN] at he
      simp only [exec]
      split at he
      · rename_i ha
        obtain ⟨g1, h1⟩ := execN_ok hcn he g
        obtain ⟨g2, h2⟩ := execN_ok hcn ha g1
        exact ⟨g2, by simp only [h2]; exact h1⟩
      · rename_i hne
        obtain ⟨g2, h2⟩ := execN_ok hcn he g
        refine ⟨g2, ?_⟩
        rw [h2]
        split
        · rename_i heq; cases heq; exact absurd he (hne _ _)
        · rfl
    | cond x t f =>
      simp only [execN] at he
      simp only [exec]
      split at he
      · rename_i hx; simp only [hx]; exact execN_ok hcn he g
      · rename_i hx; simp only [hx]; exact execN_ok hcn he g
      · cases he
    | block id b =>
      simp only [execN] at he
      simp only [exec]
      split at he
      · rename_i hb
        split at he
        · rename_i hi
          cases he
          obtain ⟨g2, h2⟩ := execN_ok hcn hb g
          exact ⟨g2, by simp only [h2, hi]⟩
        · rename_i hi
          cases he
          obtain ⟨g2, h2⟩ := execN_ok hcn hb g
          exact ⟨g2, by simp only [h2, hi]⟩
      · rename_i hne
        obtain ⟨g2, h2⟩ := execN_ok hcn he g
        refine ⟨g2, ?_⟩
        rw [h2]
        split
        · rename_i heq; cases heq; exact absurd he (hne _ _ _)
        · rfl
    | loop b =>
      simp only [execN] at he
      simp only [exec]
      split at he
      · rename_i ha
        obtain ⟨g1, h1⟩ := execN_ok hcn he g
        obtain ⟨g2, h2⟩ := execN_ok hcn ha g1
        exact ⟨g2, by simp only [h2]; exact h1⟩
      · rename_i hne
        obtain ⟨g2, h2⟩ := execN_ok hcn he g
        refine ⟨g2, ?_⟩
        rw [h2]
        split
        · rename_i heq; cases heq; exact absurd he (hne _ _)
        · rfl
    | scope b =>
      simp only [execN] at he
      simp only [exec]
      exact execN_ok hcn he g
    | _ => cases he
theorem endN_ok {ext : Ext} {n : Nat} {fn : Func} {st : St} {a a' : Acc} {v : Value} {h' : Hp} (he : endN P ext n fn st a = some (v, h', a')) : a' = a ∧ runDf (aPlain P ext (aCall P ext n) n) st.df st.hp = some h' ∧ retVal P fn { st with hp := h' } = some v := by
  unfold endN at he
  split at he
  · rename_i h1
    split at he
    · rename_i h2; cases he; exact ⟨rfl, h1, h2⟩
    · cases he
  · cases he
theorem callN_ok (ext : Ext) : ∀ n, CnOk (aCall P ext n) (callN P ext n)
  | 0 => fun f args h a v h' a' he => by cases he
  | n + 1 => fun f args h a v h' a' he g => by
    simp only [callN] at he
    simp only [aCall]
    split at he
    · rename_i e hx
      split at he
      · rename_i hr; cases he; exact ⟨g, by simp only [hx, hr]⟩
      · cases he
    · rename_i hx
      split at he
      · cases he
      · rename_i fn hf
        split at he
        · cases he
        · rename_i c hb
          split at he
          · cases he
          · rename_i hle
            split at he
            · rename_i hr
              obtain ⟨e1, e2, e3⟩ := endN_ok he
              subst e1
              obtain ⟨g1, h1⟩ := execN_ok (callN_ok ext n) hr g
              exact ⟨g1, by simp only [hx, hf, aBody, hb, hle, h1, e2, e3]; rfl⟩
            · rename_i hr
              obtain ⟨e1, e2, e3⟩ := endN_ok he
              subst e1
              obtain ⟨g1, h1⟩ := execN_ok (callN_ok ext n) hr g
              exact ⟨g1, by simp only [hx, hf, aBody, hb, hle, h1, e2, e3]; rfl⟩
            · cases he
end

/-- The beginning: all claims ahead, newest first. -/
def acc0 (cl : List (Nat × Cm)) : Acc := ⟨cl.reverse, 0, [], [], []⟩
section
variable {P : Program} {N : Nat} {W : Base}
/-- A piece, through its calls. -/
theorem FRwp.pieceN {ext : Ext} (hx : ExtOk P ext) (hm : P.follows .mixedOrders = true) (d : Nat) {n : Nat} {c : Code} {cl : List (Nat × Cm)} {st : St} {e : Exit} {q : List Obl} {r : List OblH} {x : List OblE} {Q : Exit → St → Prop} (p : Nat) (K Ts : List Nat) (O : List Blk) (L : List (Nat × Value))
    (he : (execN P (aCall P ext d) (callN P ext d) n c st (acc0 cl)).map (fun y => (look2 p K Ts (y.1, y.2.1), y.2.2.q, y.2.2.r, y.2.2.x)) = some ((e, O, L, true), q, r, x)) (hq : Met q) (hr : MetH r) (hx' : MetE x) (hs : codeSafe P N c = true) (hK : nodupB K = true) (hT : Ts.all (fun t => Nat.blt t N) = true)
    (hO : ∀ i, i < p → ∀ o, O[i]? = some o → Fixed 0 o) (h : ∀ g, Q e (stOf N g L O)) : FRwp P N W c st Q := by
  obtain ⟨⟨e', st', a'⟩, h1, h2⟩ := Option.map_eq_some_iff.1 he
  simp only [Prod.mk.injEq] at h2
  obtain ⟨h2, rfl, rfl, rfl⟩ := h2
  refine FRwp.pieceY0 (aCall_sound hx hm d) hm (n := n) p K Ts O L ?_ hs hK hT hO h
  rw [(execN_ok (callN_ok ext d) h1 ⟨hq, hr, hx'⟩).2]
  exact congrArg some h2
end
end Go.Proofs.Ytgeoommlmddgpaa.AI
