/- Pieces with claims about all that writes: what an operation answers, puts and lays may be claimed; what is owed for it is listed. -/
import Derived.Test.YtgeoommlmddgpaaAi36
set_option linter.unusedVariables false
set_option linter.unusedSimpArgs false
namespace Go.Proofs.Ytgeoommlmddgpaa.AI
open Go Go.RowKit

abbrev OblE := Option (Value × List Eff) × (Value × List Eff)
def MetE (l : List OblE) : Prop := ∀ o ∈ l, o.1 = some o.2
theorem MetE.nil : MetE [] := fun o ho => by cases ho
theorem MetE.cons {a : Option (Value × List Eff)} {v : Value × List Eff} {l : List OblE} (h : a = some v) (hl : MetE l) : MetE ((a, v) :: l) := fun o ho => by
  cases ho with
  | head => exact h
  | tail _ ho => exact hl o ho
theorem MetE.left {a b : List OblE} (h : MetE (a ++ b)) : MetE a := fun o ho => h o (List.mem_append_left _ ho)
theorem MetE.right {a b : List OblE} (h : MetE (a ++ b)) : MetE b := fun o ho => h o (List.mem_append_right _ ho)
/-- Claims on operations that write: by their answer's temporary; a store by that of its address, 1000 more; a call without an answer by that of its first argument, 2000 more. -/
abbrev ClE := List (Nat × Value × List Eff)
def keyOfE (o : Oper) : Option Nat := match o.dst with
  | some t => some t
  | none => match o.op with
    | .store _ (.tmp t) _ => some (1000 + t)
    | .call c => match c.args.toList with
      | .tmp t :: _ => some (2000 + t)
      | _ => none
    | _ => none
def claimE (cl : ClE) : Option Nat → Option (Value × List Eff)
  | none => none
  | some t => (cl.find? fun p => Nat.beq p.1 t).map (·.2)
/-- A call of a function value. -/
def callOf (o : Oper) : Option Call := match o.op with
  | .call c => match c.callee with
    | .value _ => some c
    | _ => none
  | _ => none
theorem callOf_some {o : Oper} {c : Call} (h : callOf o = some c) : o.op = .call c ∧ ∃ x, c.callee = .value x := by
  unfold callOf at h
  split at h
  · rename_i c' ho
    split at h
    · rename_i x hx; cases h; exact ⟨ho, x, hx⟩
    · cases h
  · cases h
def stepE (P : Program) (call : CallF) (cl : List (Tmp × Value)) (ch : ClH) (ce : ClE) (o : Oper) (st : St) : Option (Value × Hp × List (FuncId × List Value) × List Obl × List OblH × List OblE) :=
  match claimE ce (keyOfE o) with
  | some (v, es) => match cls P o, callOf o with
    | .big, none => some (v, st.hp.eff es, st.df, [], [], [(opB P st.eval st.hp.sz st.hp.get o, (v, es))])
    | .big, some c => match target st.eval c with
      | some (f, args) => some (v, st.hp.eff es, st.df, [], [(call f args st.hp, (v, st.hp.eff es))], [])
      | none => none
    | _, _ => none
  | none => match stepH P call cl ch o st with
    | some (v, h, d, q, r) => some (v, h, d, q, r, [])
    | none => none
def runOpsE (P : Program) (call : CallF) (cl : List (Tmp × Value)) (ch : ClH) (ce : ClE) (ops : Array Oper) : List Oper → St → Option (St × List Obl × List OblH × List OblE)
  | [], st => some (st, [], [], [])
  | o :: os, st => match aWanted ops st o with
    | false => runOpsE P call cl ch ce ops os (st.tput o.dst undef)
    | true => match stepE P call cl ch ce o st with
      | some (v, h, d, q, r, x) => match runOpsE P call cl ch ce ops os ({ st with hp := h, df := d }.tput o.dst v) with
        | some (st', q', r', x') => some (st', q ++ q', r ++ r', x ++ x')
        | none => none
      | none => none
def execE (P : Program) (call : CallF) (cl : List (Tmp × Value)) (ch : ClH) (ce : ClE) : Nat → Code → St → Option (Exit × St × List Obl × List OblH × List OblE)
  | 0, _, _ => none
  | n + 1, c, st => match c with
    | .skip | .label _ => some (.normal, st, [], [], [])
    | .region _ ops draw => match draw with
      | false => match runOpsE P call cl ch ce ops ops.toList st with
        | some (st', q, r, x) => some (.normal, st', q, r, x)
        | none => none
      | true => match floats P ops with
        | [] => match runOpsE P call cl ch ce ops ops.toList st with
          | some (st', q, r, x) => some (.normal, st', q, r, x)
          | none => none
        | _ :: _ => match aRegionQ P call cl ops true st with
          | some (st', q) => some (.normal, st', q, [], [])
          | none => none
    | .seq a b => match execE P call cl ch ce n a st with
      | some (.normal, st', q, r, x) => match execE P call cl ch ce n b st' with
        | some (e, st2, q2, r2, x2) => some (e, st2, q ++ q2, r ++ r2, x ++ x2)
        | none => none
      | r => r
    | .cond x a b => match st.eval x with
      | .bool true => execE P call cl ch ce n a st
      | .bool false => execE P call cl ch ce n b st
      | _ => none
    | .block id body => match execE P call cl ch ce n body st with
      | some (.exit i, st', q, r, x) => match Nat.beq i id with
        | true => some (.normal, st', q, r, x)
        | false => some (.exit i, st', q, r, x)
      | r => r
    | .scope body => execE P call cl ch ce n body st
    | .exit id => some (.exit id, st, [], [], [])
    | .ret => some (.ret, st, [], [], [])
    | _ => none

section
variable {P : Program} {call : CallF} {cl : List (Tmp × Value)} {ch : ClH} {ce : ClE}
theorem stepE_ok {o : Oper} {st : St} {v : Value} {hp : Hp} {d : List (FuncId × List Value)} {q : List Obl} {r : List OblH} {x : List OblE} (h : stepE P call cl ch ce o st = some (v, hp, d, q, r, x)) (m : Met q) (mh : MetH r) (me : MetE x) : aStep P call o st = some (v, hp, d) := by
  unfold stepE at h
  split at h
  · split at h
    · rename_i hc _
      cases h
      have := me _ (.head _)
      simp only at this
      unfold aStep
      simp only [hc, this]
    · rename_i c hc hcall
      obtain ⟨ho, y, hy⟩ := callOf_some hcall
      split at h
      · rename_i ht
        cases h
        have := mh _ (.head _)
        simp only at this
        have hb : opB P st.eval st.hp.sz st.hp.get o = none := by
          unfold opB
          simp only [ho, hy]
        unfold aStep
        simp only [hc, hb, ho, ht, this]
      · cases h
    · cases h
  · split at h
    · rename_i hs; cases h; exact stepH_ok hs m mh
    · cases h
theorem runOpsE_ok {ops : Array Oper} : ∀ {os : List Oper} {st st' : St} {q : List Obl} {r : List OblH} {x : List OblE}, runOpsE P call cl ch ce ops os st = some (st', q, r, x) → Met q → MetH r → MetE x → runOps P call ops os st = some st'
  | [], st, st', q, r, x, h, m, mh, me => by cases h; rfl
  | o :: os, st, st', q, r, x, h, m, mh, me => by
    unfold runOpsE at h
    unfold runOps
    split at h
    · rename_i hw; simp only [hw]; exact runOpsE_ok h m mh me
    · rename_i hw
      simp only [hw]
      split at h
      · rename_i hs
        split at h
        · rename_i hr
          cases h
          simp only [stepE_ok hs m.left mh.left me.left]
          exact runOpsE_ok hr m.right mh.right me.right
        · cases h
      · cases h
theorem execE_ok : ∀ {n : Nat} {c : Code} {st st' : St} {e : Exit} {q : List Obl} {r : List OblH} {x : List OblE}, execE P call cl ch ce n c st = some (e, st', q, r, x) → Met q → MetH r → MetE x → exec P call n c st = some (e, st')
  | 0, c, st, st', e, q, r, x, h, m, mh, me => by cases h
  | n + 1, c, st, st', e, q, r, x, h, m, mh, me => by
    cases c with
    | skip => cases h; rfl
    | label l => cases h; rfl
    | exit i => cases h; rfl
    | ret => cases h; rfl
    | region id ops draw =>
      simp only [execE] at h
      simp only [exec]
      cases draw with
      | false =>
        simp only at h
        split at h
        · rename_i hr; cases h; simp only [aRegion, runOpsE_ok hr m mh me]
        · cases h
      | true =>
        simp only at h
        split at h
        · rename_i hf
          split at h
          · rename_i hr; cases h; simp only [aRegion, hf, runOpsE_ok hr m mh me]
          · cases h
        · split at h
          · rename_i hr; cases h; simp only [aRegionQ_ok hr m]
          · cases h
    | seq a b =>
      simp only [execE] at h
      simp only [exec]
      split at h
      · rename_i ha
        split at h
        · rename_i hb
          cases h
          simp only [execE_ok ha m.left mh.left me.left]
          exact execE_ok hb m.right mh.right me.right
        · cases h
      · rename_i hne
        rw [execE_ok h m mh me]
        split
        · rename_i heq; cases heq; exact absurd h (hne _ _ _ _)
        · rfl
    | cond x a b =>
      simp only [execE] at h
      simp only [exec]
      split at h
      · rename_i hx; simp only [hx]; exact execE_ok h m mh me
      · rename_i hx; simp only [hx]; exact execE_ok h m mh me
      · cases h
    | block id b =>
      simp only [execE] at h
      simp only [exec]
      split at h
      · rename_i hb
        split at h
        · rename_i hi; cases h; simp only [execE_ok hb m mh me, hi]
        · rename_i hi; cases h; simp only [execE_ok hb m mh me, hi]
      · rename_i hne
        rw [execE_ok h m mh me]
        split
        · rename_i heq; cases heq; exact absurd h (hne _ _ _ _ _)
        · rfl
    | scope b =>
      simp only [execE] at h
      simp only [exec]
      exact execE_ok h m mh me
    | _ => cases h
end

section
variable {P : Program} {N : Nat} {W : Base}
theorem FRwp.pieceX {call : CallF} (hc : CallOk P call) (hm : P.follows .mixedOrders = true) {n : Nat} {c : Code} {cl : List (Tmp × Value)} {ch : ClH} {ce : ClE} {st : St} {e : Exit} {q : List Obl} {r : List OblH} {x : List OblE} {Q : Exit → St → Prop} (p : Nat) (K Ts : List Nat) (O : List Blk) (L : List (Nat × Value))
    (he : (execE P call cl ch ce n c st).map (fun y => (look2 p K Ts (y.1, y.2.1), y.2.2)) = some ((e, O, L, true), q, r, x)) (hq : Met q) (hr : MetH r) (hx : MetE x) (hs : codeSafe P N c = true) (hK : nodupB K = true) (hF : fixB p K = true) (hT : Ts.all (fun t => Nat.blt t N) = true)
    (hO : ∀ i, i < p → ∀ o, O[i]? = some o → Fixed p o) (h : ∀ g, Q e (stOf N g L O)) : FRwp P N W c st Q := by
  obtain ⟨⟨e', st', q', r', x'⟩, h1, h2⟩ := Option.map_eq_some_iff.1 he
  simp only [Prod.mk.injEq] at h2
  obtain ⟨h2, rfl, rfl, rfl⟩ := h2
  refine FRwp.pieceE hc hm (n := n) p K Ts O L ?_ hs hK hF hT hO h
  rw [execE_ok h1 hq hr hx]
  exact congrArg some h2
/-- A piece; the first p blocks stay what they are under whatever number. -/
theorem FRwp.pieceY0 {call : CallF} (hc : CallOk P call) (hm : P.follows .mixedOrders = true) {n : Nat} {c : Code} {st : St} {e : Exit} {Q : Exit → St → Prop} (p : Nat) (K Ts : List Nat) (O : List Blk) (L : List (Nat × Value))
    (he : (exec P call n c st).map (look2 p K Ts) = some (e, O, L, true)) (hs : codeSafe P N c = true) (hK : nodupB K = true) (hT : Ts.all (fun t => Nat.blt t N) = true)
    (hO : ∀ i, i < p → ∀ o, O[i]? = some o → Fixed 0 o) (h : ∀ g, Q e (stOf N g L O)) : FRwp P N W c st Q := by
  obtain ⟨⟨e', st'⟩, h1, h2⟩ := Option.map_eq_some_iff.1 he
  simp only [look2, Prod.mk.injEq] at h2
  obtain ⟨rfl, rfl, rfl, h5⟩ := h2
  obtain ⟨h5, h7⟩ := Bool.and_eq_true_iff.1 h5
  obtain ⟨h5, h6⟩ := Bool.and_eq_true_iff.1 h5
  obtain ⟨h3, h4⟩ := Bool.and_eq_true_iff.1 h5
  intro a w m f
  refine wp_mono (seg hc hm h1 hs f) fun e2 a' w' hh => ?_
  obtain ⟨rfl, m', f'⟩ := hh
  have hlen : ((K.take p).map (fun b => (st'.hp.get b).getD .dead) ++ (K.drop p).map (fun b => renBlk K ((st'.hp.get b).getD .dead))).length = K.length := by
    simp; omega
  have hget : ∀ (i b : Nat), K[i]? = some b → ∃ o, st'.hp.get b = some o := fun i b hi => by
    have := List.all_eq_true.1 h3 b (List.mem_of_getElem? hi)
    cases hg : st'.hp.get b with
    | none => rw [hg] at this; cases this
    | some o => exact ⟨o, rfl⟩
  obtain ⟨g, m2, f2⟩ := f'.canon2 K ((K.take p).map (fun b => (st'.hp.get b).getD .dead) ++ (K.drop p).map (fun b => renBlk K ((st'.hp.get b).getD .dead))) (Ts.map fun t => (t, ren2 K (st'.tget t))) (nodupB_ok hK) hlen (fun i b o2 hi ho => by
      obtain ⟨o, hg⟩ := hget i b hi
      refine ⟨o, hg, ?_⟩
      have hiK : i < K.length := (List.getElem?_eq_some_iff.1 hi).1
      by_cases hip : i < p
      · have e1 : ((K.take p).map (fun b => (st'.hp.get b).getD .dead) ++ (K.drop p).map (fun b => renBlk K ((st'.hp.get b).getD .dead)))[i]? = some o := by
          rw [List.getElem?_append_left (by simp; omega), List.getElem?_map, List.getElem?_take, if_pos hip, hi]
          simp [hg]
        rw [e1] at ho
        have e3 : o = o2 := by simpa using ho
        subst e3
        obtain ⟨k1, k2⟩ := hO i hip o e1
        exact ⟨(k2 K (fun i hi => absurd hi (Nat.not_lt_zero _))).symm, k1⟩
      · have hmin : min p K.length = p := by omega
        rw [List.getElem?_append_right (by simp; omega)] at ho
        simp only [List.length_map, List.length_take, hmin, List.getElem?_map, List.getElem?_drop] at ho
        rw [show p + (i - p) = i by omega, hi] at ho
        simp only [Option.map_some, Option.some.injEq, hg, Option.getD_some] at ho
        refine ⟨ho.symm, ?_⟩
        have hbm : b ∈ K.drop p := List.mem_of_getElem? (by rw [List.getElem?_drop, show p + (i - p) = i by omega]; exact hi)
        have := List.all_eq_true.1 h4 b hbm
        simpa [hg] using this) (fun x hx => by
      obtain ⟨t, ht, rfl⟩ := List.mem_map.1 hx
      exact ⟨by have := List.all_eq_true.1 hT t ht; simpa [Nat.blt_eq] using this, List.all_eq_true.1 h6 t ht, rfl⟩) (List.isEmpty_iff.1 h7)
  exact ⟨_, m2, f2, h g⟩
theorem FRwp.pieceY {call : CallF} (hc : CallOk P call) (hm : P.follows .mixedOrders = true) {n : Nat} {c : Code} {cl : List (Tmp × Value)} {ch : ClH} {ce : ClE} {st : St} {e : Exit} {q : List Obl} {r : List OblH} {x : List OblE} {Q : Exit → St → Prop} (p : Nat) (K Ts : List Nat) (O : List Blk) (L : List (Nat × Value))
    (he : (execE P call cl ch ce n c st).map (fun y => (look2 p K Ts (y.1, y.2.1), y.2.2)) = some ((e, O, L, true), q, r, x)) (hq : Met q) (hr : MetH r) (hx : MetE x) (hs : codeSafe P N c = true) (hK : nodupB K = true) (hT : Ts.all (fun t => Nat.blt t N) = true)
    (hO : ∀ i, i < p → ∀ o, O[i]? = some o → Fixed 0 o) (h : ∀ g, Q e (stOf N g L O)) : FRwp P N W c st Q := by
  obtain ⟨⟨e', st', q', r', x'⟩, h1, h2⟩ := Option.map_eq_some_iff.1 he
  simp only [Prod.mk.injEq] at h2
  obtain ⟨h2, rfl, rfl, rfl⟩ := h2
  refine FRwp.pieceY0 hc hm (n := n) p K Ts O L ?_ hs hK hT hO h
  rw [execE_ok h1 hq hr hx]
  exact congrArg some h2
end
end Go.Proofs.Ytgeoommlmddgpaa.AI
