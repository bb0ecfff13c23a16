/- Pieces with claims about calls: what a call answers and lays may be claimed; what is owed for it is listed. -/
import Derived.Test.YtgeoommlmddgpaaAi34
set_option linter.unusedVariables false
set_option linter.unusedSimpArgs false
namespace Go.Proofs.Ytgeoommlmddgpaa.AI
open Go Go.RowKit

abbrev OblH := Option (Value × Hp) × (Value × Hp)
def MetH (l : List OblH) : Prop := ∀ o ∈ l, o.1 = some o.2
theorem MetH.nil : MetH [] := fun o ho => by cases ho
theorem MetH.cons {a : Option (Value × Hp)} {v : Value × Hp} {l : List OblH} (h : a = some v) (hl : MetH l) : MetH ((a, v) :: l) := fun o ho => by
  cases ho with
  | head => exact h
  | tail _ ho => exact hl o ho
theorem MetH.left {a b : List OblH} (h : MetH (a ++ b)) : MetH a := fun o ho => h o (List.mem_append_left _ ho)
theorem MetH.right {a b : List OblH} (h : MetH (a ++ b)) : MetH b := fun o ho => h o (List.mem_append_right _ ho)
abbrev ClH := List (Tmp × Value × List Blk)
def claimH (cl : ClH) : Option Tmp → Option (Value × List Blk)
  | none => none
  | some t => (cl.find? fun p => Nat.beq p.1 t).map (·.2)
def stepH (P : Program) (call : CallF) (cl : List (Tmp × Value)) (ch : ClH) (o : Oper) (st : St) : Option (Value × Hp × List (FuncId × List Value) × List Obl × List OblH) :=
  match claimH ch o.dst with
  | some (v, O) => match cls P o, opB P st.eval st.hp.sz st.hp.get o, o.op with
    | .big, none, .call c => match target st.eval c with
      | some (f, args) => some (v, heapOf O st.hp, st.df, [], [(call f args st.hp, (v, heapOf O st.hp))])
      | none => none
    | _, _, _ => none
  | none => match stepQ P call cl o st with
    | some (v, h, d, q) => some (v, h, d, q, [])
    | none => none
def runOpsH (P : Program) (call : CallF) (cl : List (Tmp × Value)) (ch : ClH) (ops : Array Oper) : List Oper → St → Option (St × List Obl × List OblH)
  | [], st => some (st, [], [])
  | o :: os, st => match aWanted ops st o with
    | false => runOpsH P call cl ch ops os (st.tput o.dst undef)
    | true => match stepH P call cl ch o st with
      | some (v, h, d, q, r) => match runOpsH P call cl ch ops os ({ st with hp := h, df := d }.tput o.dst v) with
        | some (st', q', r') => some (st', q ++ q', r ++ r')
        | none => none
      | none => none
def execH (P : Program) (call : CallF) (cl : List (Tmp × Value)) (ch : ClH) : Nat → Code → St → Option (Exit × St × List Obl × List OblH)
  | 0, _, _ => none
  | n + 1, c, st => match c with
    | .skip | .label _ => some (.normal, st, [], [])
    | .region _ ops draw => match draw with
      | false => match runOpsH P call cl ch ops ops.toList st with
        | some (st', q, r) => some (.normal, st', q, r)
        | none => none
      | true => match aRegionQ P call cl ops true st with
        | some (st', q) => some (.normal, st', q, [])
        | none => none
    | .seq a b => match execH P call cl ch n a st with
      | some (.normal, st', q, r) => match execH P call cl ch n b st' with
        | some (e, st2, q2, r2) => some (e, st2, q ++ q2, r ++ r2)
        | none => none
      | r => r
    | .cond x a b => match st.eval x with
      | .bool true => execH P call cl ch n a st
      | .bool false => execH P call cl ch n b st
      | _ => none
    | .block id body => match execH P call cl ch n body st with
      | some (.exit i, st', q, r) => match Nat.beq i id with
        | true => some (.normal, st', q, r)
        | false => some (.exit i, st', q, r)
      | r => r
    | .scope body => execH P call cl ch n body st
    | .exit id => some (.exit id, st, [], [])
    | .ret => some (.ret, st, [], [])
    | _ => none

section
variable {P : Program} {call : CallF} {cl : List (Tmp × Value)} {ch : ClH}
theorem stepH_ok {o : Oper} {st : St} {v : Value} {hp : Hp} {d : List (FuncId × List Value)} {q : List Obl} {r : List OblH} (h : stepH P call cl ch o st = some (v, hp, d, q, r)) (m : Met q) (mh : MetH r) : aStep P call o st = some (v, hp, d) := by
  unfold stepH at h
  split at h
  · split at h
    · rename_i hc hb ho
      split at h
      · rename_i ht
        cases h
        have := mh _ (.head _)
        simp only at this
        unfold aStep
        simp only [hc, hb, ho, ht, this]
      · cases h
    · cases h
  · split at h
    · rename_i hs; cases h; exact stepQ_ok hs m
    · cases h
theorem runOpsH_ok {ops : Array Oper} : ∀ {os : List Oper} {st st' : St} {q : List Obl} {r : List OblH}, runOpsH P call cl ch ops os st = some (st', q, r) → Met q → MetH r → runOps P call ops os st = some st'
  | [], st, st', q, r, h, m, mh => by cases h; rfl
  | o :: os, st, st', q, r, h, m, mh => by
    unfold runOpsH at h
    unfold runOps
    split at h
    · rename_i hw; simp only [hw]; exact runOpsH_ok h m mh
    · rename_i hw
      simp only [hw]
      split at h
      · rename_i hs
        split at h
        · rename_i hr
          cases h
          simp only [stepH_ok hs m.left mh.left]
          exact runOpsH_ok hr m.right mh.right
        · cases h
      · cases h
theorem execH_ok : ∀ {n : Nat} {c : Code} {st st' : St} {e : Exit} {q : List Obl} {r : List OblH}, execH P call cl ch n c st = some (e, st', q, r) → Met q → MetH r → exec P call n c st = some (e, st')
  | 0, c, st, st', e, q, r, h, m, mh => by cases h
  | n + 1, c, st, st', e, q, r, h, m, mh => by
    cases c with
    | skip => cases h; rfl
    | label l => cases h; rfl
    | exit i => cases h; rfl
    | ret => cases h; rfl
    | region id ops draw =>
      simp only [execH] at h
      simp only [exec]
      cases draw with
      | false =>
        simp only at h
        split at h
        · rename_i hr; cases h; simp only [aRegion, runOpsH_ok hr m mh]
        · cases h
      | true =>
        simp only at h
        split at h
        · rename_i hr; cases h; simp only [aRegionQ_ok hr m]
        · cases h
    | seq a b =>
      simp only [execH] at h
      simp only [exec]
      split at h
      · rename_i ha
        split at h
        · rename_i hb
          cases h
          simp only [execH_ok ha m.left mh.left]
          exact execH_ok hb m.right mh.right
        · cases h
      · rename_i hne
        rw [execH_ok h m mh]
        split
        · rename_i heq; cases heq; exact absurd h (hne _ _ _)
        · rfl
    | cond x a b =>
      simp only [execH] at h
      simp only [exec]
      split at h
      · rename_i hx; simp only [hx]; exact execH_ok h m mh
      · rename_i hx; simp only [hx]; exact execH_ok h m mh
      · cases h
    | block id b =>
      simp only [execH] at h
      simp only [exec]
      split at h
      · rename_i hb
        split at h
        · rename_i hi; cases h; simp only [execH_ok hb m mh, hi]
        · rename_i hi; cases h; simp only [execH_ok hb m mh, hi]
      · rename_i hne
        rw [execH_ok h m mh]
        split
        · rename_i heq; cases heq; exact absurd h (hne _ _ _ _)
        · rfl
    | scope b =>
      simp only [execH] at h
      simp only [exec]
      exact execH_ok h m mh
    | _ => cases h
end

section
variable {P : Program} {N : Nat} {W : Base}
/-- A piece with claims, calls among them; behind it the canonical state. -/
theorem FRwp.pieceE {call : CallF} (hc : CallOk P call) (hm : P.follows .mixedOrders = true) {n : Nat} {c : Code} {st : St} {e : Exit} {Q : Exit → St → Prop} (p : Nat) (K Ts : List Nat) (O : List Blk) (L : List (Nat × Value))
    (he : (exec P call n c st).map (look2 p K Ts) = some (e, O, L, true)) (hs : codeSafe P N c = true) (hK : nodupB K = true) (hF : fixB p K = true) (hT : Ts.all (fun t => Nat.blt t N) = true)
    (hO : ∀ i, i < p → ∀ o, O[i]? = some o → Fixed p o) (h : ∀ g, Q e (stOf N g L O)) : FRwp P N W c st Q := by
  obtain ⟨⟨e', st'⟩, h1, h2⟩ := Option.map_eq_some_iff.1 he
  simp only [look2, Prod.mk.injEq] at h2
  obtain ⟨rfl, rfl, rfl, h5⟩ := h2
  obtain ⟨h5, h7⟩ := Bool.and_eq_true_iff.1 h5
  obtain ⟨h5, h6⟩ := Bool.and_eq_true_iff.1 h5
  obtain ⟨h3, h4⟩ := Bool.and_eq_true_iff.1 h5
  intro a w m f
  refine wp_mono (seg hc hm h1 hs f) fun e2 a' w' hh => ?_
  obtain ⟨rfl, m', f'⟩ := hh
  have hlen : ((K.take p).map (fun b => (st'.hp.get b).getD .dead) ++ (K.drop p).map (fun b => renBlk K ((st'.hp.get b).getD .dead))).length = K.length := by
    simp; omega
  have hget : ∀ (i b : Nat), K[i]? = some b → ∃ o, st'.hp.get b = some o := fun i b hi => by
    have := List.all_eq_true.1 h3 b (List.mem_of_getElem? hi)
    cases hg : st'.hp.get b with
    | none => rw [hg] at this; cases this
    | some o => exact ⟨o, rfl⟩
  obtain ⟨g, m2, f2⟩ := f'.canon2 K ((K.take p).map (fun b => (st'.hp.get b).getD .dead) ++ (K.drop p).map (fun b => renBlk K ((st'.hp.get b).getD .dead))) (Ts.map fun t => (t, ren2 K (st'.tget t))) (nodupB_ok hK) hlen (fun i b o2 hi ho => by
      obtain ⟨o, hg⟩ := hget i b hi
      refine ⟨o, hg, ?_⟩
      have hiK : i < K.length := (List.getElem?_eq_some_iff.1 hi).1
      by_cases hip : i < p
      · have e1 : ((K.take p).map (fun b => (st'.hp.get b).getD .dead) ++ (K.drop p).map (fun b => renBlk K ((st'.hp.get b).getD .dead)))[i]? = some o := by
          rw [List.getElem?_append_left (by simp; omega), List.getElem?_map, List.getElem?_take, if_pos hip, hi]
          simp [hg]
        rw [e1] at ho
        have e3 : o = o2 := by simpa using ho
        subst e3
        obtain ⟨k1, k2⟩ := hO i hip o e1
        exact ⟨(k2 K (fixB_ok hF)).symm, k1⟩
      · have hmin : min p K.length = p := by omega
        rw [List.getElem?_append_right (by simp; omega)] at ho
        simp only [List.length_map, List.length_take, hmin, List.getElem?_map, List.getElem?_drop] at ho
        rw [show p + (i - p) = i by omega, hi] at ho
        simp only [Option.map_some, Option.some.injEq, hg, Option.getD_some] at ho
        refine ⟨ho.symm, ?_⟩
        have hbm : b ∈ K.drop p := List.mem_of_getElem? (by rw [List.getElem?_drop, show p + (i - p) = i by omega]; exact hi)
        have := List.all_eq_true.1 h4 b hbm
        simpa [hg] using this) (fun x hx => by
      obtain ⟨t, ht, rfl⟩ := List.mem_map.1 hx
      exact ⟨by have := List.all_eq_true.1 hT t ht; simpa [Nat.blt_eq] using this, List.all_eq_true.1 h6 t ht, rfl⟩) (List.isEmpty_iff.1 h7)
  exact ⟨_, m2, f2, h g⟩
theorem FRwp.pieceH {call : CallF} (hc : CallOk P call) (hm : P.follows .mixedOrders = true) {n : Nat} {c : Code} {cl : List (Tmp × Value)} {ch : ClH} {st : St} {e : Exit} {q : List Obl} {r : List OblH} {Q : Exit → St → Prop} (p : Nat) (K Ts : List Nat) (O : List Blk) (L : List (Nat × Value))
    (he : (execH P call cl ch n c st).map (fun x => (look2 p K Ts (x.1, x.2.1), x.2.2)) = some ((e, O, L, true), q, r)) (hq : Met q) (hr : MetH r) (hs : codeSafe P N c = true) (hK : nodupB K = true) (hF : fixB p K = true) (hT : Ts.all (fun t => Nat.blt t N) = true)
    (hO : ∀ i, i < p → ∀ o, O[i]? = some o → Fixed p o) (h : ∀ g, Q e (stOf N g L O)) : FRwp P N W c st Q := by
  obtain ⟨⟨e', st', q', r'⟩, h1, h2⟩ := Option.map_eq_some_iff.1 he
  simp only [Prod.mk.injEq] at h2
  obtain ⟨h2, rfl, rfl⟩ := h2
  refine FRwp.pieceE hc hm (n := n) p K Ts O L ?_ hs hK hF hT hO h
  rw [execH_ok h1 hq hr]
  exact congrArg some h2
end
end Go.Proofs.Ytgeoommlmddgpaa.AI
